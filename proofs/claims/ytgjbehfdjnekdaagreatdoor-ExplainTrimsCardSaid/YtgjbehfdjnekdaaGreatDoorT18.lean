/- Parts of the proof of one statement: Xc8. -/
import Derived.Test.YtgjbehfdjnekdaaGreatDoorT17
set_option linter.all false
section
/- A closed run: append. -/
set_option linter.unusedVariables false
set_option linter.unusedSimpArgs false
namespace Go.Proofs.YtgjbehfdjnekdaaGreatDoor.Xc
noncomputable section
open Go.RowKit
open Go.Proofs.YtgjbehfdjnekdaaGreatDoor.Aw (Kept nlt nle retv getD_put op_steps add_add kept_alloc kept_setRow kept_drew)

/-- How many elements there are. -/
def lenX : Xv → Option Nat
  | .nils => some 0
  | .sl _ _ len _ _ => some len
  | .str s => some s.length
  | _ => none
/-- The elements, cell by cell. -/
def elemsX (ob : List (Nat × Xo)) (k : Nat) : Xv → Option (List Xv)
  | .nils => some []
  | .sl n off len k' _ => bif k'.beq k then (bif len.beq 0 then some [] else match Aw.look n ob with
      | some (.cells _ cs) => bif (off + len * k).ble cs.length then some ((cs.drop off).take (len * k)) else none
      | _ => none) else none
  | .str s => bif k.beq 1 then some (s.map fun b => .int .u8 b.toNat) else none
  | _ => none

def notInt : TypeDesc → Bool
  | .slice _ => true
  | .string => true
  | _ => false
theorem notInt_cases {ds : TypeDesc} (h : notInt ds = true) : (∃ e, ds = .slice e) ∨ ds = .string := by
  cases ds <;> simp [notInt] at h ⊢

section
variable {P : Program} {X : Ctx} {U : Us} {σ μ : XS} {o : Oper} {d lo : Nat} {T : Tab} {E : Env} {a : Act} {w : World}

theorem elems_run (h : HeapRel E U σ.ob w) {c : Xv} {u : Value} (hc : c.rel E U u) {k m : Nat} {cs : List Xv} (hm : lenX c = some m) (hcs : elemsX σ.ob k c = some cs) :
    ∃ vs : List Value, cellsRel E U cs vs ∧ vs.length = m * k ∧ (∀ w' : World, (Builtin.lenOf u).run P w' = .ok m w') ∧ (∀ w' : World, (∀ ad v, w.cell? ad = some v → w'.cell? ad = some v) → (Builtin.firstCells k m u).run P w' = .ok vs.toArray w') := by
  cases c with
  | nils =>
    cases hc
    simp only [lenX, Option.some.injEq] at hm; subst hm
    simp only [elemsX, Option.some.injEq] at hcs; subst hcs
    exact ⟨[], ⟨rfl, fun i c v hc => by simp at hc⟩, by simp, fun _ => rfl, fun w' _ => rfl⟩
  | str s =>
    cases hc
    simp only [lenX, Option.some.injEq] at hm; subst hm
    simp only [elemsX] at hcs
    cases hb : k.beq 1 with
    | false => rw [hb, cond_false] at hcs; cases hcs
    | true =>
      rw [hb, cond_true] at hcs; injection hcs with hcs; subst hcs
      have := Nat.eq_of_beq_eq_true hb; subst this
      refine ⟨s.map fun b => .int .u8 b.toNat, ⟨by simp, fun i c v hc hv => ?_⟩, by simp, fun w' => by simp [Builtin.lenOf, ByteArray.size], fun w' _ => ?_⟩
      · rw [List.getElem?_map] at hc hv
        obtain ⟨b, hb1, rfl⟩ := Option.map_eq_some_iff.1 hc
        rw [hb1] at hv; injection hv with hv; subst hv; rfl
      · simp [Builtin.firstCells, ByteArray.data_extract]
  | sl n off len k' full =>
    simp only [lenX, Option.some.injEq] at hm; subst hm
    obtain ⟨hn, b, o0, o2, cap, e1, rfl, e3, e4, e5, e6, e7, e8⟩ := hc
    simp only [elemsX] at hcs
    cases hb : k'.beq k with
    | false => rw [hb, cond_false] at hcs; cases hcs
    | true =>
      rw [hb, cond_true] at hcs
      have := Nat.eq_of_beq_eq_true hb; subst this
      have key : ∀ vs : List Value, vs.length = len * k' → (∀ t v, vs[t]? = some v → w.cell? ((⟨b, o2, none⟩ : Addr).add t) = some v) → ∀ w' : World, (∀ ad v, w.cell? ad = some v → w'.cell? ad = some v) → (Builtin.firstCells k' len (.slice (some ⟨b, o2, none⟩) len cap)).run P w' = .ok vs.toArray w' :=
        fun vs hl hc w' hw => run_firstCells_some (P := P) w' k' len ⟨b, o2, none⟩ len cap vs hl fun t v hv => hw _ _ (hc t v hv)
      cases hb2 : len.beq 0 with
      | true =>
        rw [hb2, cond_true] at hcs; injection hcs with hcs; subst hcs
        have := Nat.eq_of_beq_eq_true hb2; subst this
        exact ⟨[], ⟨rfl, fun i c v hc => by simp at hc⟩, by simp, fun _ => rfl, key [] (by simp) fun t v hv => by simp at hv⟩
      | false =>
        rw [hb2, cond_false] at hcs
        have h0 : len ≠ 0 := fun e => by subst e; cases hb2
        split at hcs
        · rename_i t cs' hl
          cases hb3 : (off + len * k').ble cs'.length with
          | false => rw [hb3, cond_false] at hcs; cases hcs
          | true =>
            rw [hb3, cond_true] at hcs; injection hcs with hcs; subst hcs
            have hle : off + len * k' ≤ cs'.length := Nat.le_of_ble_eq_true hb3
            have ho2 : o2 = o0 + off := by rcases e3 with h | h; · omega
                                           · exact h
            obtain ⟨_, b', o', vs, e1', f2, f3, f4, f5⟩ := h.rel n _ hl
            rw [e1] at e1'; simp only [Value.pointer.injEq, Option.some.injEq, Addr.mk.injEq, and_true] at e1'
            obtain ⟨rfl, rfl⟩ := e1'
            refine ⟨(vs.toList.drop o2).take (len * k'), ⟨by simp; omega, fun i c v hc hv => ?_⟩, by simp; omega, fun _ => rfl, key _ (by simp; omega) fun t v hv => ?_⟩
            · rw [List.getElem?_take] at hc hv
              split at hc
              · rename_i hi
                rw [if_pos hi] at hv
                rw [List.getElem?_drop] at hc hv
                obtain ⟨v', hv', hr⟩ := f5 _ c hc
                rw [Array.getElem?_toList, ho2, show o0 + off + i = o0 + (off + i) by omega, hv'] at hv
                injection hv with hv; subst hv; exact hr
              · cases hc
            · rw [List.getElem?_take] at hv
              split at hv
              · rw [List.getElem?_drop, Array.getElem?_toList] at hv
                rw [add_add, cell_of_row w b _ vs _ (0, 0) f2]; exact hv
              · cases hv
        · cases hcs
  | _ => simp [lenX] at hm

theorem run_app_in {w1 : World} {t t2 ty e : TypeId} {i : TypeInfo} {ds : TypeDesc} (hu : P.underlying t = some (.slice e)) (hu2 : P.underlying t2 = some ds) (hds : notInt ds = true) (hi : P.info? e = some i) {base : Option Addr} {n c m : Nat} {x : Value} {news : List Value}
    (hl : (Builtin.lenOf x).run P w = .ok m w) (hf : (Builtin.firstCells i.size m x).run P w = .ok news.toArray w) (hroom : n + m ≤ c) (hst : ∀ a, base = some a → (storeCells (a.add (n * i.size)) news).run P w = .ok () w1) (hno : base = none → w1 = w) :
    (Builtin.append_ #[t, t2] ty #[.slice base n c, x]).run P w = .ok (.slice base (n + m) c) w1 := by
  rcases notInt_cases hds with ⟨e', rfl⟩ | rfl <;> cases base with
  | none => have := hno rfl; subst this; simp [Builtin.append_, run_underlying hu, run_underlying hu2, sizeOf, typeInfo, hi, hl, hroom, hf]
  | some a => have := hst a rfl; simp [Builtin.append_, run_underlying hu, run_underlying hu2, sizeOf, typeInfo, hi, hl, hroom, hf, this]
theorem run_app_new {t t2 ty e : TypeId} {i : TypeInfo} {z : Value} {ds : TypeDesc} (hu : P.underlying t = some (.slice e)) (hu2 : P.underlying t2 = some ds) (hds : notInt ds = true) (hi : P.info? e = some i) (hz : i.zero = some z) {base : Option Addr} {n c m : Nat} {x : Value} {olds news : List Value}
    (hl : (Builtin.lenOf x).run P w = .ok m w) (hf : (Builtin.firstCells i.size m x).run P w.drew = .ok news.toArray w.drew) (hfo : (Builtin.firstCells i.size n (.slice base n c)).run P w.drew = .ok olds.toArray w.drew)
    (hg : c < n + m) (h63 : n + m ≤ 9223372036854775807) (hfit : Builtin.nextslicecap (n + m) c * i.bytes ≤ 281474976710656) :
    (Builtin.append_ #[t, t2] ty #[.slice base n c, x]).run P w =
      .ok (.slice (some ⟨w.heap.size, 0, none⟩) (n + m) (grownCap w (n + m) c e)) (w.drew.alloc (.cells (olds.toArray ++ news.toArray ++ Builtin.zeroCells z.cells (grownCap w (n + m) c e - (n + m))) e)) := by
  have hn : ¬ (n + m ≤ c) := by omega
  have h63' : ¬ (9223372036854775807 < ((n : Int) + (m : Int))) := by omega
  have h48' : ¬ (281474976710656 < Builtin.nextslicecap (n + m) c * i.bytes) := by omega
  rcases notInt_cases hds with ⟨e', rfl⟩ | rfl
  all_goals
    simp [Builtin.append_, run_underlying hu, run_underlying hu2, sizeOf, typeInfo, zeroValue, hi, hz, hl, hn, h63', h48', Question.forced, hf, hfo, newRow, grownCap]
    congr 2
    rw [← Array.append_assoc]
    simp

def newE (d lo : Nat) (rm : List Nat) (e : TypeId) (n k : Nat) (cs : List Xv) : Eff := ⟨[], [], some (d, .val (.one (.sl lo 0 n k .any))), rm, [(lo, .cells e cs)], lo + 1⟩

def appE (T : Tab) (μ : XS) (d lo : Nat) (t t2 : TypeId) (c y : Xv) : Option Eff :=
  match T.ty t, T.ty t2 with
  | some i, some i2 => match i.desc with
    | .slice e => match T.ty e with
      | some j => match lenX c, lenX y, elemsX μ.ob j.size c, elemsX μ.ob j.size y with
        | some n, some m, some xs, some ys =>
          if notInt i2.desc = true ∧ 0 < j.size ∧ 0 < j.bytes ∧ (n + m) * j.bytes ≤ 140737488355328 then
            bif m.beq 0 then (match c with
              | .str _ => none
              | c => some ⟨[], [], some (d, .val (.one c)), [], [], lo⟩)
            else match c with
              | .nils => some (newE d lo [] e (n + m) j.size (xs ++ ys))
              | .sl nm off len k full => match full with
                | .full => some (newE d lo [] e (n + m) j.size (xs ++ ys))
                | .ge g => match Aw.look nm μ.ob with
                  | some (.cells e' cs) => if e' = e then
                      (bif (n + m).ble g && (off + (n + m) * j.size).ble cs.length && k.beq j.size then some ⟨[], [], some (d, .val (.one (.sl nm off (n + m) j.size (.ge g)))), [nm], [(nm, .cells e (setL cs (off + n * j.size) ys))], lo⟩
                      else some (newE d lo [nm] e (n + m) j.size (xs ++ ys))) else none
                  | _ => none
                | .any => match Aw.look nm μ.ob with
                  | some (.cells e' _) => if e' = e then some (newE d lo [nm] e (n + m) j.size (xs ++ ys)) else none
                  | _ => none
              | _ => none
          else none
        | _, _, _, _ => none
      | none => none
    | _ => none
  | _, _ => none

theorem elems_sub (hs : Sub μ σ) {k : Nat} {c : Xv} {cs : List Xv} (h : elemsX μ.ob k c = some cs) : elemsX σ.ob k c = some cs := by
  cases c with
  | sl n off len k' full =>
    simp only [elemsX] at h ⊢
    cases hb : k'.beq k with
    | false => rw [hb, cond_false] at h; cases h
    | true =>
      rw [hb, cond_true] at h; rw [cond_true]
      cases hb2 : len.beq 0 with
      | true => rw [hb2, cond_true] at h; rw [cond_true]; exact h
      | false =>
        rw [hb2, cond_false] at h; rw [cond_false]
        cases hl : Aw.look n μ.ob with
        | none => rw [hl] at h; cases h
        | some x => rw [hl] at h; rw [hs.ob n x hl]; exact h
  | _ => exact h

theorem exec_app {x y : Operand} {t t2 : TypeId} {v : Value} {w' : World} (ho : o.op = .call ⟨.builtin .append, #[x, y], #[t, t2]⟩) (h : (Builtin.append_ #[t, t2] o.type #[a.eval x, a.eval y]).run P w = .ok v w') : (execOp a.eval o).run P w = .ok (.value v) w' := by
  unfold execOp
  simp only [ho, resolve, invoke, builtin, Sem.run_bind, Sem.run_pure, Result.andThen_ok, List.map_toArray, List.map_cons, List.map_nil, h]

theorem step_append (hT : TabOK P T) {t t2 : TypeId} {x y : Operand} {c c2 : Xv} {e : Eff} (hs : Sub μ σ) (hx : μ.opd x = some (.val (.one c))) (hy : μ.opd y = some (.val (.one c2))) (he : appE T μ d lo t t2 c c2 = some e)
    (ho : o.op = .call ⟨.builtin .append, #[x, y], #[t, t2]⟩) (hd : o.dst = some d) (hN : d < X.N) (hfr : lo < e.hi → ¬ U lo) : StepS P X o U σ lo [e] := by
  unfold appE at he
  split at he
  rotate_left; · cases he
  rename_i i i2 hi hi2
  split at he
  rotate_left; · cases he
  rename_i el hdesc
  split at he
  rotate_left; · cases he
  rename_i j hj
  split at he
  rotate_left; · cases he
  rename_i n m xs ys hn hm hxs hys
  split at he
  rotate_left; · cases he
  rename_i hcond
  obtain ⟨h1, h2, h3, h4⟩ := hcond
  have hu := (hT.ty _ _ hi).und
  rw [hdesc] at hu
  have hu2 := (hT.ty _ _ hi2).und
  obtain ⟨z, hz, hzc, _, hzl, hinfo⟩ := (hT.ty _ _ hj).zero
  obtain ⟨inf, hinf1, hinf2⟩ := Option.map_eq_some_iff.1 hinfo
  simp only [Prod.mk.injEq] at hinf2
  obtain ⟨hinfz, hinfs, hinfb⟩ := hinf2
  have hxs' := elems_sub hs hxs
  have hys' := elems_sub hs hys
  have hzs : z.cells.size = j.size := by have := (zerosA_rel (⟨fun _ => .nilFunc, fun _ => 0⟩ : Env) (fun _ => True) hzc).1; simp only [Array.length_toList] at this; omega
  have hbnd : n + m ≤ 140737488355328 := Nat.le_trans (Nat.le_mul_of_pos_right _ h3) h4
  -- the case of a new block
  have new : ∀ (rm : List Nat), ¬ U lo → ∀ E a w, RI X E U σ a w → ∀ (base : Option Addr) (cp : Nat), a.eval x = .slice base n cp → cp < n + m →
      ∃ (u : Value) (w' : World) (E' : Env) (T : Nat → Prop), (execOp a.eval o).run P w = .ok (.value u) w' ∧ Env.le U E E' ∧ Kept (fun b _ => T b) w w' ∧
      (∀ b, T b → ∃ n x, n ∈ rm ∧ Aw.look n σ.ob = some x ∧ E.blk n = some b) ∧
      (∀ nn x, Aw.look nn [(lo, Xo.cells el (xs ++ ys))] = some x → (U nn ∨ (lo ≤ nn ∧ nn < lo + 1)) ∧ x.rel E' (fun n => U n ∨ (lo ≤ n ∧ n < lo + 1)) nn w') ∧
      (∀ nn x b, Aw.look nn [(lo, Xo.cells el (xs ++ ys))] = some x → E'.blk nn = some b → (∃ m y, m ∈ rm ∧ Aw.look m σ.ob = some y ∧ E.blk m = some b) ∨ w.heap.size ≤ b) ∧
      (∀ n m x y b, Aw.look n [(lo, Xo.cells el (xs ++ ys))] = some x → Aw.look m [(lo, Xo.cells el (xs ++ ys))] = some y → E'.blk n = some b → E'.blk m = some b → n = m) ∧ (Xa.val (.one (.sl lo 0 (n + m) j.size .any))).rel E' (fun n => U n ∨ (lo ≤ n ∧ n < lo + 1)) u := by
    intro rm hfr E a w hr base cp hex hcp
    obtain ⟨vs, hv1, hv2, hv3, hv4⟩ := elems_run (P := P) hr.heap (hr.opd (hs.opd hx)) hn hxs'
    obtain ⟨us, hu1, hu2', hu3, hu4⟩ := elems_run (P := P) hr.heap (hr.opd (hs.opd hy)) hm hys'
    have hg := grownCap_ge w (n + m) cp el
    have hcm : grownCap w (n + m) cp el ≤ maxLen := grownCap_le_maxLen w _ cp el (by simp only [maxLen]; omega)
    have hrun := run_app_new (P := P) (ty := o.type) (w := w) hu hu2 h1 hinf1 hinfz (base := base) (n := n) (c := cp) (m := m) (x := a.eval y) (olds := vs) (news := us) (hu3 w) (by rw [hinfs]; exact hu4 w.drew fun _ _ h => h) (by rw [hinfs, ← hex]; exact hv4 w.drew fun _ _ h => h) hcp (by omega)
      (by rw [hinfb]; exact growslice_fits (by omega) h4)
    rw [← hex] at hrun
    have hk1 : Kept (fun _ _ => False) w (w.drew.alloc (.cells (vs.toArray ++ us.toArray ++ Builtin.zeroCells z.cells (grownCap w (n + m) cp el - (n + m))) el)) := (kept_drew w).trans (kept_alloc w.drew _)
    have hsz : (vs.toArray ++ us.toArray ++ Builtin.zeroCells z.cells (grownCap w (n + m) cp el - (n + m))).size = grownCap w (n + m) cp el * j.size := by
      simp only [Array.size_append, List.size_toArray, size_zeroCells, hzs, hv2, hu2', ← Nat.add_mul]
      congr 1; omega
    have hl : ∀ nn y, Aw.look nn [(lo, Xo.cells el (xs ++ ys))] = some y → nn = lo ∧ y = .cells el (xs ++ ys) := fun nn y hy => by
      simp only [Aw.look_nil, Aw.look_cons] at hy
      split at hy
      · rename_i e; injection hy with hy; exact ⟨e, hy.symm⟩
      · cases hy
    have hxl : xs.length = n * j.size := by rw [hv1.1, hv2]
    have hyl : ys.length = m * j.size := by rw [hu1.1, hu2']
    have hmul : (n + m) * j.size ≤ grownCap w (n + m) cp el * j.size := Nat.mul_le_mul_right _ hg
    refine ⟨_, _, E.set lo (.pointer (some ⟨w.heap.size, 0, none⟩)) (grownCap w (n + m) cp el * j.size), fun _ => False, exec_app ho hrun, Env.set_le hfr, hk1.mono fun _ _ h => h.elim, fun b h => h.elim, fun nn y hy => ?_, fun nn y b hy hb => ?_, fun nn nn' y y' b hy hy' _ _ => by rw [(hl nn y hy).1, (hl nn' y' hy').1], ?_⟩
    · obtain ⟨rfl, rfl⟩ := hl nn y hy
      refine ⟨.inr ⟨Nat.le_refl _, Nat.lt_succ_self _⟩, w.heap.size, 0, _, Env.set_ι, heap_alloc_new w.drew _, by rw [Env.set_hi, hsz]; omega, by rw [Env.set_hi]; simp only [List.length_append, hxl, hyl, ← Nat.add_mul]; exact hmul, fun q c hc => ?_⟩
      have hall : ∃ v, (vs ++ us)[q]? = some v ∧ c.rel E U v := by
        rcases Nat.lt_or_ge q xs.length with h | h
        · rw [List.getElem?_append_left h] at hc
          have : q < vs.length := by rw [← hv1.1]; exact h
          exact ⟨vs[q], by rw [List.getElem?_append_left this]; exact List.getElem?_eq_getElem this, hv1.2 q c _ hc (List.getElem?_eq_getElem this)⟩
        · rw [List.getElem?_append_right h] at hc
          have h' : vs.length ≤ q := by rw [← hv1.1]; exact h
          have hq : q - xs.length < us.length := by rw [← hu1.1]; rcases Nat.lt_or_ge (q - xs.length) ys.length with h | h; exact h; simp [List.getElem?_eq_none h] at hc
          refine ⟨us[q - xs.length], ?_, hu1.2 _ c _ hc (List.getElem?_eq_getElem hq)⟩
          rw [List.getElem?_append_right h', ← hv1.1]; exact List.getElem?_eq_getElem hq
      obtain ⟨v, hv, hrel⟩ := hall
      have hlt : q < (vs ++ us).length := by rcases Nat.lt_or_ge q (vs ++ us).length with h | h; exact h; simp [List.getElem?_eq_none h] at hv
      refine ⟨v, ?_, Xv.mono hrel (Env.set_le hfr) fun n hn => .inl hn⟩
      rw [Nat.zero_add, ← Array.getElem?_toList]
      simp only [Array.toList_append]
      rw [List.getElem?_append_left hlt]; exact hv
    · obtain ⟨rfl, rfl⟩ := hl nn y hy; exact .inr (set_blk _ hb)
    · exact ⟨.inr ⟨Nat.le_refl _, Nat.lt_succ_self _⟩, w.heap.size, 0, 0, grownCap w (n + m) cp el, Env.set_ι, rfl, .inr rfl, hg, hcm, Nat.le_refl _, by rw [Env.set_hi]; omega, trivial⟩
  -- nothing appended
  cases hm0 : m.beq 0 with
  | true =>
    rw [hm0, cond_true] at he
    have hme := Nat.eq_of_beq_eq_true hm0
    subst hme
    have hc : e = ⟨[], [], some (d, .val (.one c)), [], [], lo⟩ ∧ ∀ s, c ≠ .str s := by
      cases c <;> simp at he ⊢ <;> exact he.symm
    obtain ⟨rfl, hnstr⟩ := hc
    refine step_val hd hN fun E a w hr => ?_
    have hcx := hr.opd (hs.opd hx)
    obtain ⟨us, hu1, hu2', hu3, hu4⟩ := elems_run (P := P) hr.heap (hr.opd (hs.opd hy)) hm hys'
    have hus : us = [] := by cases us with | nil => rfl | cons _ _ => simp at hu2'
    subst hus
    have hform : ∃ base cp, a.eval x = .slice base n cp ∧ n ≤ cp := by
      cases c with
      | nils => simp only [lenX, Option.some.injEq] at hn; subst hn; exact ⟨none, 0, hcx, Nat.le_refl _⟩
      | sl nm off len k full => simp only [lenX, Option.some.injEq] at hn; subst hn; obtain ⟨_, b, o0, o2, cap, _, e2, _, e4, _⟩ := hcx; exact ⟨_, cap, e2, e4⟩
      | str s => exact absurd rfl (hnstr s)
      | _ => simp [lenX] at hn
    obtain ⟨base, cp, hex, hle⟩ := hform
    have hrun := run_app_in (P := P) (ty := o.type) (w := w) (w1 := w) hu hu2 h1 hinf1 (base := base) (n := n) (c := cp) (m := 0) (x := a.eval y) (news := []) (hu3 w) (by rw [hinfs]; exact hu4 w fun _ _ h => h) (by omega) (fun a _ => by simp [storeCells]) fun _ => rfl
    rw [← hex] at hrun
    refine ⟨a.eval x, ?_, hcx⟩
    have := exec_app (P := P) ho hrun
    rw [this]; simp [hex]
  | false =>
    rw [hm0, cond_false] at he
    have hm1 : 0 < m := by rcases Nat.eq_zero_or_pos m with h | h; · subst h; cases hm0
                           · exact h
    have hfr' : e.hi = lo + 1 → ¬ U lo := fun h => hfr (by omega)
    cases c with
    | nils =>
      simp only [Option.some.injEq] at he; subst he
      refine step_mem hd hN fun E a w hr => ?_
      simp only [lenX, Option.some.injEq] at hn; subst hn
      exact new [] (hfr' rfl) E a w hr none 0 (hr.opd (hs.opd hx)) (by omega)
    | sl nm off len k full =>
      -- whatever is known of the capacity
      have grows : ∀ {e' : TypeId} {cs : List Xv}, Aw.look nm μ.ob = some (.cells e' cs) → e' = el → e = newE d lo [nm] el (n + m) j.size (xs ++ ys) → ¬ U lo → StepS P X o U σ lo [e] := fun {e' cs} hl' hee heq hfr1 => by
        subst hee
        subst heq
        refine step_mem hd hN fun E a w hr => ?_
        have hcx : (Xv.sl nm off len k full).rel E U (a.eval x) := hr.opd (hs.opd hx)
        simp only [lenX, Option.some.injEq] at hn; subst hn
        obtain ⟨hnU, b, o0, o2, cap, e1, e2, e3, e4, e5, e6, e7, e8⟩ := id hcx
        have hlook := hs.ob _ _ hl'
        by_cases hroom : len + m ≤ cap
        · obtain ⟨_, b', o', cur, e1', f2, f3, f4, f5⟩ := hr.heap.rel nm _ hlook
          rw [e1] at e1'; simp only [Value.pointer.injEq, Option.some.injEq, Addr.mk.injEq, and_true] at e1'
          obtain ⟨rfl, rfl⟩ := e1'
          obtain ⟨vs, hv1, hv2, hv3, hv4⟩ := elems_run (P := P) hr.heap hcx rfl hxs'
          obtain ⟨us, hu1, hu2', hu3, hu4⟩ := elems_run (P := P) hr.heap (hr.opd (hs.opd hy)) hm hys'
          have hkk : k = j.size := by
            simp only [elemsX] at hxs
            cases hb : k.beq j.size with
            | true => exact Nat.eq_of_beq_eq_true hb
            | false => rw [hb, cond_false] at hxs; cases hxs
          subst hkk
          have hmul : (len + m) * j.size ≤ cap * j.size := Nat.mul_le_mul_right _ hroom
          rw [Nat.add_mul] at hmul
          have hst := run_storeCells_at P b (o2 + len * j.size) e' us 0 cur w f2 (by rw [hu2']; omega) fun v hv => by
            obtain ⟨q, hq, rfl⟩ := List.getElem_of_mem hv
            have hq' : q < ys.length := by rw [hu1.1]; exact hq
            exact Xv.one (hu1.2 q ys[q] _ (List.getElem?_eq_getElem hq') (List.getElem?_eq_getElem hq))
          simp only [Nat.add_zero] at hst
          generalize hnewd : (cur.toList.take (o2 + len * j.size) ++ us ++ cur.toList.drop (o2 + len * j.size + us.length)).toArray = nw at hst
          have hrun := run_app_in (P := P) (ty := o.type) (w := w) (w1 := w.setRow b nw) hu hu2 h1 hinf1 (base := some ⟨b, o2, none⟩) (n := len) (c := cap) (m := m) (x := a.eval y) (news := us) (hu3 w) (by rw [hinfs]; exact hu4 w fun _ _ h => h) hroom
            (fun ad h => by injection h with h; subst h; rw [add_add, hinfs]; exact hst) (fun h => by cases h)
          rw [← e2] at hrun
          have hnsz : nw.size = cur.size := by rw [← hnewd]; simp only [List.size_toArray, List.length_append, List.length_take, List.length_drop, Array.length_toList]; rw [hu2']; omega
          have hl1 : ∀ nn y, Aw.look nn [(lo, Xo.cells e' (xs ++ ys))] = some y → nn = lo ∧ y = .cells e' (xs ++ ys) := fun nn y hy => by
            simp only [Aw.look_nil, Aw.look_cons] at hy
            split at hy
            · rename_i e; injection hy with hy; exact ⟨e, hy.symm⟩
            · cases hy
          have hblk : E.blk nm = some b := by unfold Env.blk; rw [e1]
          have hxl : xs.length = len * j.size := by rw [hv1.1, hv2]
          have hyl : ys.length = m * j.size := by rw [hu1.1, hu2']
          have hfl := hfr1
          refine ⟨_, _, E.set lo (.pointer (some ⟨b, o2, none⟩)) (o0 + E.hi nm - o2), fun c => c = b, exec_app ho hrun, Env.set_le hfl, kept_setRow (new := nw) f2, fun c hc => ⟨nm, _, by simp, hlook, by rw [hblk, hc]⟩, fun nn y hy => ?_, fun nn y c hy hb => ?_, fun nn nn' y y' b hy hy' _ _ => by rw [(hl1 nn y hy).1, (hl1 nn' y' hy').1], ?_⟩
          · obtain ⟨rfl, rfl⟩ := hl1 nn y hy
            refine ⟨.inr ⟨Nat.le_refl _, Nat.lt_succ_self _⟩, b, o2, nw, Env.set_ι, setRow_heap w b cur _ e' (0, 0) f2, by rw [Env.set_hi, hnsz]; omega, by rw [Env.set_hi]; simp only [List.length_append, hxl, hyl]; omega, fun q c hc => ?_⟩
            have hvl : (cur.toList.take (o2 + len * j.size)).length = o2 + len * j.size := by simp; omega
            rcases Nat.lt_or_ge q xs.length with h | h
            · rw [List.getElem?_append_left h] at hc
              -- an element that was there
              have hq : ∃ v, cur[o2 + q]? = some v ∧ c.rel E U v := by
                have h0 : len ≠ 0 := fun h0 => by subst h0; omega
                have ho2 : o2 = o0 + off := by rcases e3 with h | h; · omega
                                               · exact h
                simp only [elemsX] at hxs'
                rw [Nat.beq_refl, cond_true] at hxs'
                have hb0 : len.beq 0 = false := by cases hb : len.beq 0 with | false => rfl | true => exact absurd (Nat.eq_of_beq_eq_true hb) h0
                rw [hb0, cond_false, hlook] at hxs'
                simp only at hxs'
                cases hb3 : (off + len * j.size).ble cs.length with
                | false => rw [hb3, cond_false] at hxs'; cases hxs'
                | true =>
                  rw [hb3, cond_true] at hxs'; injection hxs' with hxs'
                  rw [← hxs', List.getElem?_take, if_pos (by omega), List.getElem?_drop] at hc
                  obtain ⟨v, hv, hrel⟩ := f5 _ c hc
                  exact ⟨v, by rw [ho2, Nat.add_assoc]; exact hv, hrel⟩
              obtain ⟨v, hv, hrel⟩ := hq
              refine ⟨v, ?_, Xv.mono hrel (Env.set_le hfl) fun n hn => .inl hn⟩
              rw [← hnewd, List.getElem?_toArray, List.append_assoc, List.getElem?_append_left (by omega), List.getElem?_take, if_pos (by omega), Array.getElem?_toList]
              exact hv
            · rw [List.getElem?_append_right h] at hc
              have hq : q - xs.length < us.length := by rw [← hu1.1]; rcases Nat.lt_or_ge (q - xs.length) ys.length with h | h; exact h; simp [List.getElem?_eq_none h] at hc
              refine ⟨us[q - xs.length], ?_, Xv.mono (hu1.2 _ c _ hc (List.getElem?_eq_getElem hq)) (Env.set_le hfl) fun n hn => .inl hn⟩
              rw [← hnewd, List.getElem?_toArray, List.append_assoc, List.getElem?_append_right (by omega), hvl, List.getElem?_append_left (by omega), show o2 + q - (o2 + len * j.size) = q - xs.length by omega]
              exact List.getElem?_eq_getElem hq
          · obtain ⟨rfl, rfl⟩ := hl1 nn y hy
            refine .inl ⟨nm, _, by simp, hlook, ?_⟩
            rw [hblk, ← hb]; unfold Env.blk; rw [Env.set_ι]
          · exact ⟨.inr ⟨Nat.le_refl _, Nat.lt_succ_self _⟩, b, o2, o2, cap, Env.set_ι, rfl, .inr rfl, hroom, e5, Nat.le_refl _, by rw [Env.set_hi]; omega, trivial⟩
        · exact new [nm] (hfr1) E a w hr _ cap e2 (by omega)
      cases full with
      | full =>
        simp only [Option.some.injEq] at he; subst he
        refine step_mem hd hN fun E a w hr => ?_
        simp only [lenX, Option.some.injEq] at hn; subst hn
        obtain ⟨_, b, o0, o2, cap, _, e2, _, e4, _, _, _, e8⟩ := hr.opd (hs.opd hx)
        have e8 : cap = len := e8
        exact new [] (hfr' rfl) E a w hr _ cap e2 (by omega)
      | any =>
        simp only at he
        split at he
        rotate_left; · cases he
        rename_i e' cs hl
        split at he
        rotate_left; · cases he
        rename_i hee
        injection he with he
        exact grows hl hee he.symm (hfr' (by rw [← he]; rfl))
      | ge g =>
        simp only at he
        split at he
        rotate_left; · cases he
        rename_i e' cs hl
        split at he
        rotate_left; · cases he
        rename_i hee
        cases hroom : (n + m).ble g && (off + (n + m) * j.size).ble cs.length && k.beq j.size with
        | false =>
          rw [hroom, cond_false] at he
          injection he with he
          exact grows hl hee he.symm (hfr' (by rw [← he]; rfl))
        | true =>
          rw [hroom, cond_true] at he
          injection he with he; subst he; subst hee
          simp only [Bool.and_eq_true] at hroom
          have r1 := Nat.le_of_ble_eq_true hroom.1.1
          have r2 := Nat.le_of_ble_eq_true hroom.1.2
          have r3 := Nat.eq_of_beq_eq_true hroom.2
          subst r3
          refine step_mem hd hN fun E a w hr => ?_
          have hcx : (Xv.sl nm off len j.size (.ge g)).rel E U (a.eval x) := hr.opd (hs.opd hx)
          simp only [lenX, Option.some.injEq] at hn; subst hn
          obtain ⟨hnU, b, o0, o2, cap, e1, e2, e3, e4, e5, e6, e7, e8⟩ := id hcx
          have e8 : g ≤ cap := e8
          have e3 : o2 = o0 + off := by rcases e3 with h | h; · omega
                                        · exact h
          have hlook := hs.ob _ _ hl
          obtain ⟨_, b', o', vs, e1', f2, f3, f4, f5⟩ := hr.heap.rel nm _ hlook
          rw [e1] at e1'; simp only [Value.pointer.injEq, Option.some.injEq, Addr.mk.injEq, and_true] at e1'
          obtain ⟨rfl, rfl⟩ := e1'
          obtain ⟨us, hu1, hu2', hu3, hu4⟩ := elems_run (P := P) hr.heap (hr.opd (hs.opd hy)) hm hys'
          have hmul : (len + m) * j.size ≤ cap * j.size := Nat.mul_le_mul_right _ (by omega)
          have hadd : (len + m) * j.size = len * j.size + m * j.size := Nat.add_mul _ _ _
          have hyl : ys.length = m * j.size := by rw [hu1.1, hu2']
          have hst := run_storeCells_at P b (o2 + len * j.size) e' us 0 vs w f2 (by rw [hu2']; omega) fun v hv => by
            obtain ⟨q, hq, rfl⟩ := List.getElem_of_mem hv
            have hq' : q < ys.length := by rw [hu1.1]; exact hq
            exact Xv.one (hu1.2 q ys[q] _ (List.getElem?_eq_getElem hq') (List.getElem?_eq_getElem hq))
          simp only [Nat.add_zero] at hst
          generalize hnew : (vs.toList.take (o2 + len * j.size) ++ us ++ vs.toList.drop (o2 + len * j.size + us.length)).toArray = nw at hst
          have hrun := run_app_in (P := P) (ty := o.type) (w := w) (w1 := w.setRow b nw) hu hu2 h1 hinf1 (base := some ⟨b, o2, none⟩) (n := len) (c := cap) (m := m) (x := a.eval y) (news := us) (hu3 w) (by rw [hinfs]; exact hu4 w fun _ _ h => h) (by omega)
            (fun ad h => by injection h with h; subst h; rw [add_add, hinfs]; exact hst) (fun h => by cases h)
          rw [← e2] at hrun
          have hns : nw.size = vs.size := by rw [← hnew]; simp only [List.size_toArray, List.length_append, List.length_take, List.length_drop, Array.length_toList]; rw [hu2']; omega
          have hblk : E.blk nm = some b := by unfold Env.blk; rw [e1]
          have hl1 : ∀ nn y, Aw.look nn [(nm, Xo.cells e' (setL cs (off + len * j.size) ys))] = some y → nn = nm ∧ y = .cells e' (setL cs (off + len * j.size) ys) := fun nn y hy => by
            simp only [Aw.look_nil, Aw.look_cons] at hy
            split at hy
            · rename_i e; injection hy with hy; exact ⟨e, hy.symm⟩
            · cases hy
          refine ⟨_, _, E, fun c => c = b, exec_app ho hrun, .refl _ _, kept_setRow (new := nw) f2, fun c hc => ⟨nm, _, by simp, hlook, by rw [hblk, hc]⟩, fun nn y hy => ?_, fun nn y c hy hb => ?_, fun nn nn' y y' b hy hy' _ _ => by rw [(hl1 nn y hy).1, (hl1 nn' y' hy').1], ?_⟩
          · obtain ⟨rfl, rfl⟩ := hl1 nn y hy
            refine ⟨.inl hnU, b, o0, nw, e1, setRow_heap w b vs _ e' (0, 0) f2, by rw [hns]; exact f3, by simp [setL]; omega, fun q c hc => ?_⟩
            have hnl : nw.toList = vs.toList.take (o2 + len * j.size) ++ us ++ vs.toList.drop (o2 + len * j.size + us.length) := by rw [← hnew]
            have hvl : (vs.toList.take (o2 + len * j.size)).length = o2 + len * j.size := by simp; omega
            have hul := hu1.1
            have hget : ∀ v, nw.toList[o0 + q]? = some v → nw[o0 + q]? = some v := fun v hv => by rw [← Array.getElem?_toList]; exact hv
            simp only [setL] at hc
            have hct : (cs.take (off + len * j.size)).length = off + len * j.size := by simp; omega
            have up : ∀ {c : Xv} {v : Value}, c.rel E U v → c.rel E (fun n => U n ∨ (lo ≤ n ∧ n < lo)) v := fun h => Xv.mono h (.refl _ _) fun n hn => .inl hn
            rcases Nat.lt_or_ge q (off + len * j.size) with h1 | h1
            · rw [List.getElem?_append_left (by omega), List.getElem?_take, if_pos h1] at hc
              obtain ⟨v, hv, hrel⟩ := f5 q c hc
              refine ⟨v, hget v ?_, up hrel⟩
              rw [hnl, List.append_assoc, List.getElem?_append_left (by omega), List.getElem?_take, if_pos (by omega), Array.getElem?_toList]; exact hv
            · rw [List.getElem?_append_right (by omega), hct] at hc
              rcases Nat.lt_or_ge (q - (off + len * j.size)) ys.length with h2 | h2
              · rw [List.getElem?_append_left h2] at hc
                have hj : q - (off + len * j.size) < us.length := by omega
                refine ⟨us[q - (off + len * j.size)], hget _ ?_, up (hu1.2 _ c _ hc (List.getElem?_eq_getElem hj))⟩
                rw [hnl, List.append_assoc, List.getElem?_append_right (by omega), hvl, List.getElem?_append_left (by omega), show o0 + q - (o2 + len * j.size) = q - (off + len * j.size) by omega]
                exact List.getElem?_eq_getElem hj
              · rw [List.getElem?_append_right (by omega), List.getElem?_drop] at hc
                rw [show off + len * j.size + ys.length + (q - (off + len * j.size) - ys.length) = q by omega] at hc
                obtain ⟨v, hv, hrel⟩ := f5 q c hc
                refine ⟨v, hget v ?_, up hrel⟩
                rw [hnl, List.append_assoc, List.getElem?_append_right (by omega), hvl, List.getElem?_append_right (by omega), List.getElem?_drop, Array.getElem?_toList]
                rw [← hv]; congr 1; omega
          · obtain ⟨rfl, rfl⟩ := hl1 nn y hy; exact .inl ⟨nn, _, by simp, hlook, hb⟩
          · exact ⟨.inl hnU, b, o0, o2, cap, e1, rfl, .inr e3, by omega, e5, e6, by omega, e8⟩
    | _ => simp at he
end
end -- nc
end Go.Proofs.YtgjbehfdjnekdaaGreatDoor.Xc
end
