/- Parts of the proof of one statement: Xr. -/
import Derived.Test.YtgjbehfdjnekdaaGreatDoorT23
set_option linter.all false
section
/- A closed run: a loop over a function. -/
set_option linter.unusedVariables false
set_option linter.unusedSimpArgs false
namespace Go.Proofs.YtgjbehfdjnekdaaGreatDoor.Xc
noncomputable section
open Go.RowKit
open Go.Proofs.YtgjbehfdjnekdaaGreatDoor.Aw (Kept nlt nle getD_put kept_drew kept_alloc edges Lin ancOK)

def opsTmps (ops : Array Oper) : List Nat := ops.toList.flatMap fun o => tmpsOf o.op.operands.toList
def codeTmps : Code → List Nat
  | .seq a b => codeTmps a ++ codeTmps b
  | .block _ a => codeTmps a
  | .loop a => codeTmps a
  | .scope a => codeTmps a
  | .cond (.tmp t) a b => t :: (codeTmps a ++ codeTmps b)
  | .cond _ a b => codeTmps a ++ codeTmps b
  | .region _ ops _ => opsTmps ops
  | .rangeFunc (.tmp t) _ a b => t :: (codeTmps a ++ codeTmps b)
  | .rangeFunc _ _ a b => codeTmps a ++ codeTmps b
  | _ => []
def uniq : List Nat → List Nat → List Nat
  | [], acc => acc
  | t :: l, acc => bif acc.any t.beq then uniq l acc else uniq l (t :: acc)

def rangeFE (T : Tab) (call : CallF) (N : Nat) (g : Operand) (ps : List Nat) (sa bo : Code) (σ : XS) (c : Nat) : Option (List (XS × Nat × Option Code)) :=
  match target σ g with
  | some (.fn f, first, caps, _) =>
    let lp : Xo := .loop N (pick σ.sl (uniq (codeTmps sa ++ codeTmps bo) [])) ps sa bo .ready none
    let ob := (c, lp) :: σ.ob
    let all := first.map .one ++ [Xp.one (.fnv c)] ++ caps.map .one
    let ns := (reach ob 10000 (all.flatMap Xp.nm) []).reverse
    bif (ns.all fun n => (Aw.look n ob).isSome) && (T.fn f).isSome then
      match call (.fn f) (all.map (Xp.ren fun m => idx m ns)) ns.length (sub ns ob) with
      | some outs => bindL (fun (e : Eff) => bif (c + 1).ble e.hi then match Aw.look c (e.ap ⟨σ.sl, ob⟩).ob with
          | some (.loop _ _ _ _ _ st pe) => match st with
            | .busy => none
            | _ => some [(⟨σ.sl, del c (e.ap ⟨σ.sl, ob⟩).ob⟩, e.hi, pe)]
          | _ => none
        else none) (outs.map (outE ns ob (c + 1) none))
      | none => none
    else none
  | _ => none

section
variable {P : Program} {X : Ctx} {U : Us} {σ : XS} {T : Tab} {E : Env} {a : Act} {w : World} {call : CallF} {Q : Fin → Act → World → Prop} {K : List Item}

theorem RI.drop (h : RI X E U σ a w) (n : Nat) : RI X E U ⟨σ.sl, del n σ.ob⟩ a w := by
  have key : ∀ {m x}, Aw.look m (del n σ.ob) = some x → Aw.look m σ.ob = some x := fun {m x} hx => by
    rw [look_del] at hx; split at hx
    · cases hx
    · exact hx
  exact { h with slot := h.slot, heap := ⟨fun m x hx => h.heap.rel m x (key hx), fun m m' x y b hx hy => h.heap.inj m m' x y b (key hx) (key hy), fun m x b hx => h.heap.lo m x b (key hx), h.heap.glob⟩, own := fun m x b hx => h.own m x b (key hx) }

/-- The record is laid. -/
theorem RI.enter {c l df N : Nat} {f : FuncId} {ps : Array Nat} {sl : List (Nat × Xa)} {sa bo : Code} {w1 : World} {ds : List Deferred} (h : RI X E U σ a w) (hc : ¬ U c) (hN : X.N = N) (hsl : ∀ t x, Aw.look t sl = some x → Aw.look t σ.sl = some x)
    (hl : w1.heap[l]? = some (.loop ⟨.ready, none, f, a.tmps, ps, sa, bo, df⟩)) (hlw : w.heap.size ≤ l) (hk : Kept (fun _ _ => False) w w1) (hds : DefOK X.w0 w1 ds) :
    RI X (E.set c (.func (.yield l) #[] #[]) 0) (fun n => U n ∨ n = c) ⟨σ.sl, (c, .loop N sl ps.toList sa bo .ready none) :: σ.ob⟩ { a with defers := ds } w1 := by
  have hle := Env.set_le (E := E) (v := .func (.yield l) #[] #[]) (h := 0) hc
  have := h.step (E' := E.set c (.func (.yield l) #[] #[]) 0) (U' := fun n => U n ∨ n = c) (T := fun _ => False) (rm := []) (ad := [(c, .loop N sl ps.toList sa bo .ready none)]) hle (fun _ hn => .inl hn) hk (fun b hb => hb.elim)
    (fun n x hx => by
      simp only [Aw.look_nil, Aw.look_cons] at hx
      split at hx
      · rename_i e; subst e; injection hx with hx; subst hx
        refine ⟨.inr rfl, l, f, a.tmps, df, Env.set_ι, by simpa using hl, by rw [h.size, hN], fun t x hx => Xa.mono (h.slot t x (hsl t x hx)) hle fun _ hn => .inl hn⟩
      · cases hx)
    (fun n x b hx hb => by
      simp only [Aw.look_nil, Aw.look_cons] at hx
      split at hx
      · rename_i e; subst e
        unfold Env.blk at hb; rw [Env.set_ι] at hb; injection hb with hb; subst hb; exact .inr hlw
      · cases hx)
    (fun n m x y b hx hy _ _ => by
      simp only [Aw.look_nil, Aw.look_cons] at hx hy
      split at hx
      · rename_i e
        split at hy
        · rename_i e'; exact e.trans e'.symm
        · cases hy
      · cases hx)
  exact { slot := this.slot, heap := ⟨this.heap.rel, this.heap.inj, this.heap.lo, this.heap.glob⟩, size := this.size, defers := hds, kept := this.kept, own := this.own, base := this.base, env := this.env, low0 := this.low0 }

theorem gx_rangeFunc (hT : TabOK P T) (hc : CallOK P call) {N c : Nat} (hN : X.N = N) {g : Operand} {ps : Array Nat} {sa bo : Code} {outs : List (XS × Nat × Option Code)} (h : rangeFE T call N g ps.toList sa bo σ c = some outs)
    (hro : X.ro = none ∨ ∃ n l N' sl ts sa bo st pe, X.ro = some l ∧ X.U0 n ∧ X.E0.ι n = .func (.yield l) #[] #[] ∧ Aw.look n σ.ob = some (.loop N' sl ts sa bo st pe))
    (gg : ∀ x ∈ outs, Gx P Q X ((x.2.2.map Item.code).toList ++ K) (fun n => n < x.2.1) x.1) : Gx P Q X (.code (.rangeFunc g ps sa bo) :: K) (fun n => n < c) σ := by
  intro a w ⟨E, hr⟩ b cs hb
  unfold rangeFE at h
  split at h
  rotate_left; · cases h
  rename_i f first caps more htg
  simp only at h
  generalize hlp : (Xo.loop N (pick σ.sl (uniq (codeTmps sa ++ codeTmps bo) [])) ps.toList sa bo .ready none) = lp at h
  generalize hns : (reach ((c, lp) :: σ.ob) 10000 ((first.map Xp.one ++ [Xp.one (.fnv c)] ++ caps.map Xp.one).flatMap Xp.nm) []).reverse = ns at h
  cases hall : (ns.all fun n => (Aw.look n ((c, lp) :: σ.ob)).isSome) && (T.fn f).isSome with
  | false => rw [hall, cond_false] at h; cases h
  | true =>
    rw [hall, cond_true] at h
    split at h
    rotate_left; · cases h
    rename_i outs' hcall
    rw [Bool.and_eq_true] at hall
    obtain ⟨hall, hhas⟩ := hall
    simp only [List.all_eq_true] at hall
    obtain ⟨fn, hfn⟩ := Option.isSome_iff_exists.1 hhas
    -- the function
    have hg : ∃ fs cs : List Value, a.eval g = .func (.func f) fs.toArray cs.toArray ∧ cellsRel E (fun n => n < c) first fs ∧ cellsRel E (fun n => n < c) caps cs := by
      unfold target at htg
      split at htg
      · rename_i f' hg'
        simp only [Option.some.injEq, Prod.mk.injEq, Cle.fn.injEq] at htg
        obtain ⟨rfl, rfl, rfl, rfl⟩ := htg
        exact ⟨[], [], hr.opd hg', ⟨rfl, fun i c v hc => by simp at hc⟩, ⟨rfl, fun i c v hc => by simp at hc⟩⟩
      · rename_i n hg'
        split at htg
        · rename_i f' first' caps' hl
          simp only [Option.some.injEq, Prod.mk.injEq, Cle.fn.injEq] at htg
          obtain ⟨rfl, rfl, rfl, rfl⟩ := htg
          obtain ⟨_, h1, _⟩ := hr.opd hg'
          obtain ⟨_, fs, cs, h2, h3, h4⟩ := hr.heap.rel n _ hl
          exact ⟨fs, cs, h1.trans h2, h3, h4⟩
        · simp at htg
        · cases htg
      · cases htg
    obtain ⟨fs, cps, hgv, hfs, hcs⟩ := hg
    -- the record
    obtain ⟨l, df, ds, w1, henter, hl, hlw, hk, hds, hds'⟩ : ∃ l df ds w1, (Instr.enterLoop b.fn a.tmps ps sa bo b.roundOf).run P w = .ok (l, ds) w1 ∧ w1.heap[l]? = some (.loop ⟨.ready, none, b.fn, a.tmps, ps, sa, bo, df⟩) ∧ w.heap.size ≤ l ∧ Kept (fun _ _ => False) w w1 ∧ DefOK X.w0 w1 (ds ++ a.defers) ∧ True := by
      rw [hb]
      rcases hro with hro | ⟨n, l0, N', sl, ts, sa', bo', st, pe, hro, hU, hι, hlk⟩
      · rw [hro]
        refine ⟨_, w.heap.size, _, _, run_enterLoop_outer b.fn a.tmps ps sa bo, ?_, by omega, (kept_alloc w _).trans (kept_alloc _ _), ?_, trivial⟩
        · have := World.alloc_heap_new (w.alloc (.deferred (some []))) (.loop ⟨.ready, none, b.fn, a.tmps, ps, sa, bo, w.heap.size⟩)
          simpa using this
        · obtain ⟨rs, h1, h2, h3⟩ := hr.defers
          have hlt : ∀ r ∈ rs, r < w.heap.size := fun r hr' => Aw.lt_of_heap (h3 r hr').2
          refine ⟨w.heap.size :: rs, by rw [h1]; rfl, List.nodup_cons.2 ⟨fun hm => Nat.lt_irrefl _ (hlt _ hm), h2⟩, fun r hr' => ?_⟩
          rcases List.mem_cons.1 hr' with rfl | hr'
          · refine ⟨hr.kept.size, ?_⟩
            have h1 := World.alloc_heap_new w (.deferred (some []))
            have h2 := (kept_alloc (w.alloc (.deferred (some []))) (.loop ⟨.ready, none, b.fn, a.tmps, ps, sa, bo, w.heap.size⟩)).blk w.heap.size (by simp) (fun _ => id)
            rw [h2]; exact h1
          · refine ⟨(h3 r hr').1, ?_⟩
            have := ((kept_alloc w (.deferred (some []))).trans (kept_alloc _ (.loop ⟨.ready, none, b.fn, a.tmps, ps, sa, bo, w.heap.size⟩))).blk r (hlt r hr') (fun _ => id)
            rw [this]; exact (h3 r hr').2
      · rw [hro]
        obtain ⟨f0, tmps0, df0, hh⟩ := loop_at hr hlk ((hr.env.ι n hU).trans hι)
        refine ⟨_, df0, _, _, run_enterLoop_inner hh b.fn a.tmps ps sa bo, World.alloc_heap_new _ _, Nat.le_refl _, kept_alloc w _, ?_, trivial⟩
        exact hr.defers.mono fun r hr' => (kept_alloc w _).blk r (Aw.lt_of_heap hr') (fun _ => id)
    have hr1 := hr.enter (c := c) (N := N) (sl := pick σ.sl (uniq (codeTmps sa ++ codeTmps bo) [])) (Nat.lt_irrefl c) hN (fun t x hx => pick_mem (Aw.look_mem hx)) hl hlw hk hds
    rw [hlp] at hr1
    generalize hE1 : E.set c (.func (.yield l) #[] #[]) 0 = E1 at hr1
    have hι1 : E1.ι c = .func (.yield l) #[] #[] := by rw [← hE1]; exact Env.set_ι
    have hle1 : Env.le (fun n => n < c) E E1 := by rw [← hE1]; exact Env.set_le (Nat.lt_irrefl c)
    have hmono : ∀ n, n < c → (n < c ∨ n = c) := fun n hn => .inl hn
    have hfn1 : (Xv.fnv c).rel E1 (fun n => n < c ∨ n = c) (.func (.yield l) #[] #[]) := ⟨.inr rfl, hι1.symm, rfl⟩
    have hargs : partsRel E1 (fun n => n < c ∨ n = c) (first.map Xp.one ++ [Xp.one (.fnv c)] ++ caps.map Xp.one) (fs ++ [.func (.yield l) #[] #[]] ++ cps) :=
      ((partsRel.ones (hfs.mono hle1 hmono)).append ⟨rfl, fun i p v hp hv => by
        cases i with
        | zero => simp only [List.getElem?_cons_zero, Option.some.injEq] at hp hv; subst hp; subst hv; exact hfn1
        | succ i => simp at hp⟩).append (partsRel.ones (hcs.mono hle1 hmono))
    have hXC := hc _ _ _ _ _ hcall w1 (E1.sub ns) _ (heap_sub hr1.heap) (hargs.ren ren_sub)
    obtain ⟨e, w2, fr, hx, hsteps, _, hleave⟩ := hXC (b.atR { a with defers := ds ++ a.defers } (.inRangeFunc l :: K) :: cs)
    obtain ⟨v, rfl, e, he, E2, hle2, hr2⟩ := after_callE (lo := c + 1) (dst := none) hr1 (fun n hn => hall n hn) (fun d hd => by cases hd) (fun e he n h1 h2 => by omega) hx
    obtain ⟨l2, hl2, hsub⟩ := bindL_mem h e he
    cases hb2 : (c + 1).ble e.hi with
    | false => rw [hb2, cond_false] at hl2; cases hl2
    | true =>
      rw [hb2, cond_true] at hl2
      have hhi := Nat.le_of_ble_eq_true hb2
      split at hl2
      rotate_left; · cases hl2
      rename_i N2 sl2 ts2 sa2 bo2 st pe hlk
      have hst : st ≠ .busy ∧ l2 = [(⟨σ.sl, del c (e.ap ⟨σ.sl, (c, lp) :: σ.ob⟩).ob⟩, e.hi, pe)] := by
        cases st with
        | busy => cases hl2
        | _ => injection hl2 with hl2; exact ⟨by simp, hl2.symm⟩
      obtain ⟨hnb, rfl⟩ := hst
      have hι2 : E2.ι c = .func (.yield l) #[] #[] := (hle2.ι c (.inr rfl)).trans hι1
      obtain ⟨f2, tmps2, df2, hh2⟩ := loop_at hr2 hlk hι2
      have hend := run_endLoop (P := P) hh2 hnb
      have hr3 := (hr2.turn (st' := .exhausted) (pe' := pe) hlk hι2 hh2).drop c
      have hsl : (e.ap ⟨σ.sl, (c, lp) :: σ.ob⟩).sl = σ.sl := by
        obtain ⟨out, ho, rfl⟩ := List.mem_map.1 he
        rfl
      have hr4 : RI X E2 (fun n => n < e.hi) ⟨σ.sl, del c (e.ap ⟨σ.sl, (c, lp) :: σ.ob⟩).ob⟩ { a with defers := ds ++ a.defers } (w2.putObj l (.loop ⟨.exhausted, pe, f2, tmps2, ts2.toArray, sa2, bo2, df2⟩)) := by
        refine ((hr3.weakU (U' := fun n => n < e.hi) fun n hn => by omega).same (fun t => by rw [hsl]) fun n => ?_)
        show Aw.look n (del c (e.ap ⟨σ.sl, (c, lp) :: σ.ob⟩).ob) = Aw.look n (del c ((c, _) :: del c (e.ap ⟨σ.sl, (c, lp) :: σ.ob⟩).ob))
        simp only [look_del, Aw.look_nil, Aw.look_cons]
        by_cases e' : n = c
        · simp [e']
        · simp [e']
      have hmem := hsub _ (List.mem_singleton.2 rfl)
      obtain ⟨e3, a3, w3, hq, harr⟩ := gg _ hmem _ _ ⟨E2, hr4⟩ b cs hb
      refine ⟨e3, a3, w3, hq, .of_steps ?_ harr⟩
      have hres : (resolve a.eval (rangeCall g l) 0).run P w1 = .ok { target := .fn (.func f) cps.toArray, args := fs.toArray ++ #[Value.func (.yield l) #[] #[]] } w1 := by
        simp only [resolve, rangeCall, hgv, Deferred.ofValue, Sem.run_bind, Sem.run_pure, Result.andThen_ok]
        simp [Act.eval]
      have hinv : (invoke (.fn (.func f) cps.toArray) (fs.toArray ++ #[Value.func (.yield l) #[] #[]])).run P w1 = .ok (.enter f (fs ++ [Value.func (.yield l) #[] #[]] ++ cps).toArray) w1 := by
        simp only [invoke]
        rw [(hT.fn f fn hfn).2]
        simp
      refine .head (stepR_rangeFunc henter hres hinv) (Steps.trans hsteps (.head (step_leave_returned hleave) (.one ?_)))
      rw [finish_atR_inRangeFunc]
      exact stepR_endRangeFunc hend
end
end -- nc
end Go.Proofs.YtgjbehfdjnekdaaGreatDoor.Xc
end
