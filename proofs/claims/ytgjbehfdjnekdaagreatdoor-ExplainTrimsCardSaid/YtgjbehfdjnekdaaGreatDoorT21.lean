/- Parts of the proof of one statement: Xc12, Xc13. -/
import Derived.Test.YtgjbehfdjnekdaaGreatDoorT20
set_option linter.all false
section
/- A closed run: calls. -/
set_option linter.unusedVariables false
set_option linter.unusedSimpArgs false
namespace Go.Proofs.YtgjbehfdjnekdaaGreatDoor.Xc
noncomputable section
open Go.RowKit
open Go.Proofs.YtgjbehfdjnekdaaGreatDoor.Aw (Kept nlt nle retv getD_put op_steps add_add kept_alloc kept_setRow kept_drew run_call)

def renAll (r : Nat → Option Nat) (ob : List (Nat × Xo)) : Nat → List (Nat × Xo)
  | 0 => []
  | n + 1 => match r n, Aw.look n ob with
    | some m, some x => match x.ren r with
      | some y => (m, y) :: renAll r ob n
      | none => renAll r ob n
    | _, _ => renAll r ob n
theorem look_renAll {r : Nat → Option Nat} {ob : List (Nat × Xo)} {m : Nat} {y : Xo} : ∀ {k : Nat}, Aw.look m (renAll r ob k) = some y → ∃ n x, n < k ∧ r n = some m ∧ Aw.look n ob = some x ∧ x.ren r = some y
  | 0, h => by simp [renAll, Aw.look_nil, Aw.look_cons] at h
  | k + 1, h => by
    have ih : Aw.look m (renAll r ob k) = some y → ∃ n x, n < k + 1 ∧ r n = some m ∧ Aw.look n ob = some x ∧ x.ren r = some y := fun h => by
      obtain ⟨n, x, h1, h2⟩ := look_renAll h; exact ⟨n, x, by omega, h2⟩
    simp only [renAll] at h
    split at h
    · rename_i m' x hm hx
      split at h
      · rename_i z hz
        simp only [Aw.look_nil, Aw.look_cons] at h
        split at h
        · rename_i e; injection h with h; subst h; subst e; exact ⟨k, x, by omega, hm, hx, hz⟩
        · exact ih h
      · exact ih h
    · exact ih h

def back (ns : List Nat) (lo : Nat) (n : Nat) : Option Nat := if n < ns.length then ns[n]? else some (lo + (n - ns.length))

def resX : List Xp → Xa
  | [p] => .val p
  | l => .tup l

/-- What a call does, out of one of its outcomes. -/
def outE (ns : List Nat) (ob : List (Nat × Xo)) (lo : Nat) (dst : Option Nat) (out : Out) : Eff :=
  let all := renAll (back ns lo) out.ob out.k
  let ch := ns.filter fun n => !(optSame (Aw.look n all) (Aw.look n ob))
  ⟨[], [], dst.map fun d => (d, resX (out.res.map (Xp.ren (back ns lo)))), ch, all.filter fun x => !(ns.contains x.1) || ch.contains x.1, lo + (out.k - ns.length)⟩

def partsX (rd : Rd) : List Operand → Option (List Xp)
  | [] => some []
  | x :: l => match rd x, partsX rd l with
    | some (.val p), some ps => some (p :: ps)
    | _, _ => none

/-- What is called, what is handed on ahead of the arguments and behind them, what must be passed besides. -/
def target (μ : XS) (g : Operand) : Option (Cle × List Xv × List Xv × List Xv) :=
  match μ.opd g with
  | some (.val (.one (.fn0 f))) => some (.fn f, [], [], [])
  | some (.val (.one (.fnv n))) => match Aw.look n μ.ob with
    | some (.fn f first caps) => some (.fn f, first, caps, [])
    | some (.loop _ _ _ _ _ _ _) => some (.rd n, [], [], [.fnv n])
    | _ => none
  | _ => none
def Cle.ren (ns : List Nat) : Cle → Cle
  | .fn f => .fn f
  | .rd n => .rd ((idx n ns).getD 0)
def Tab.has (T : Tab) (ns : List Nat) : Cle → Bool
  | .fn f => (T.fn f).isSome
  | .rd n => (idx n ns).isSome

abbrev CallF := Cle → List Xp → Nat → List (Nat × Xo) → Option (List Out)
def CallOK (P : Program) (call : CallF) : Prop := ∀ f args k ob outs, call f args k ob = some outs → XC P f args k ob outs

def callE (T : Tab) (call : CallF) (μ : XS) (lo : Nat) (dst : Option Nat) (g : Operand) (xs : List Operand) : Option (List Eff) :=
  match target μ g, partsX μ.opd xs with
  | some (f, first, caps, more), some ps =>
      let all := first.map .one ++ ps ++ caps.map .one
      let ns := (reach μ.ob 10000 (all.flatMap Xp.nm ++ more.flatMap Xv.nm) []).reverse
      bif (ns.all fun n => (Aw.look n μ.ob).isSome) && T.has ns f then
        match call (f.ren ns) (all.map (Xp.ren fun m => idx m ns)) ns.length (sub ns μ.ob) with
        | some outs => some (outs.map (outE ns μ.ob lo dst))
        | none => none
      else none
  | _, _ => none

section
variable {P : Program} {X : Ctx} {U : Us} {σ μ : XS} {o : Oper} {lo : Nat} {T : Tab} {E : Env} {a : Act} {w : World} {rd : Rd} {call : CallF}

theorem RI.same {σ' : XS} (h : RI X E U σ a w) (h1 : ∀ t, Aw.look t σ'.sl = Aw.look t σ.sl) (h2 : ∀ n, Aw.look n σ'.ob = Aw.look n σ.ob) : RI X E U σ' a w :=
  { h with slot := fun t v hv => h.slot t v (by rw [← h1]; exact hv), heap := ⟨fun n x hx => h.heap.rel n x (by rw [← h2]; exact hx), fun n m x y b hx hy => h.heap.inj n m x y b (by rw [← h2]; exact hx) (by rw [← h2]; exact hy), fun n x b hx => h.heap.lo n x b (by rw [← h2]; exact hx), h.heap.glob⟩,
                     own := fun n x b hx => h.own n x b (by rw [← h2]; exact hx) }
theorem R.same {σ' : XS} (h : R X U σ a w) (h1 : ∀ t, Aw.look t σ'.sl = Aw.look t σ.sl) (h2 : ∀ n, Aw.look n σ'.ob = Aw.look n σ.ob) : R X U σ' a w := by
  obtain ⟨E, h⟩ := h
  exact ⟨E, { h with slot := fun t v hv => h.slot t v (by rw [← h1]; exact hv), heap := ⟨fun n x hx => h.heap.rel n x (by rw [← h2]; exact hx), fun n m x y b hx hy => h.heap.inj n m x y b (by rw [← h2]; exact hx) (by rw [← h2]; exact hy), fun n x b hx => h.heap.lo n x b (by rw [← h2]; exact hx), h.heap.glob⟩,
                     own := fun n x b hx => h.own n x b (by rw [← h2]; exact hx) }⟩

theorem partsX_rel (h : RdOK rd E U a) : ∀ {xs : List Operand} {ps : List Xp}, partsX rd xs = some ps → partsRel E U ps (xs.map a.eval)
  | [], ps, hp => by simp only [partsX, Option.some.injEq] at hp; subst hp; exact ⟨rfl, fun i p u hp => by simp at hp⟩
  | x :: xs, ps, hp => by
    simp only [partsX] at hp
    split at hp
    · rename_i p qs h1 h2
      injection hp with hp; subst hp
      have ih := partsX_rel h h2
      refine ⟨by simpa using ih.1, fun i p' u hp' hu => ?_⟩
      cases i with
      | zero => simp only [List.getElem?_cons_zero, List.map_cons, Option.some.injEq] at hp' hu; subst hp'; subst hu; exact h _ _ h1
      | succ i => exact ih.2 i p' u (by simpa using hp') (by simpa using hu)
    · cases hp
theorem partsRel.append {l m : List Xp} {us vs : List Value} (h : partsRel E U l us) (g : partsRel E U m vs) : partsRel E U (l ++ m) (us ++ vs) := by
  refine ⟨by rw [List.length_append, List.length_append, h.1, g.1], fun i p v hp hv => ?_⟩
  rcases Nat.lt_or_ge i l.length with e | e
  · rw [List.getElem?_append_left e] at hp
    rw [List.getElem?_append_left (by rw [← h.1]; exact e)] at hv
    exact h.2 i p v hp hv
  · rw [List.getElem?_append_right e] at hp
    rw [List.getElem?_append_right (by rw [← h.1]; exact e), ← h.1] at hv
    exact g.2 _ p v hp hv
theorem partsRel.ones {cs : List Xv} {vs : List Value} (h : cellsRel E U cs vs) : partsRel E U (cs.map .one) vs :=
  ⟨by simpa using h.1, fun i p v hp hv => by
    rw [List.getElem?_map] at hp
    obtain ⟨c, hc, rfl⟩ := Option.map_eq_some_iff.1 hp
    exact h.2 i c v hc hv⟩

theorem resX_rel {l : List Xp} {rs : List Value} (h : partsRel E U l rs) : (resX l).rel E U (retv rs) := by
  obtain ⟨hl, hh⟩ := h
  match l, rs, hl with
  | [p], [v], _ => exact hh 0 p v rfl rfl
  | [], [], _ => exact ⟨#[], rfl, rfl, fun i p u hp => by simp at hp⟩
  | p :: q :: l, v :: u :: rs, hl => exact ⟨_, rfl, by simpa using hl, fun i p' u' hp hu => hh i p' u' hp (by simpa using hu)⟩
  | [], v :: rs, hl => simp at hl
  | [p], [], hl => simp at hl
  | [p], v :: u :: rs, hl => simp at hl
  | p :: q :: l, [], hl => simp at hl
  | p :: q :: l, [v], hl => simp at hl

/-- Behind a call. -/
theorem after_callE {ns : List Nat} {dst : Option Nat} {outs : List Out} {e : Ending} {w' : World} (hr : RI X E U σ a w) (hns : ∀ n ∈ ns, (Aw.look n σ.ob).isSome = true) (hN : ∀ d, dst = some d → d < X.N) (hfr : ∀ e ∈ outs.map (outE ns σ.ob lo dst), ∀ n, lo ≤ n → n < e.hi → ¬ U n)
    (hx : XP w (E.sub ns) ns.length (sub ns σ.ob) outs e w') : ∃ v, e = .returned v ∧ ∃ e ∈ outs.map (outE ns σ.ob lo dst), ∃ E', Env.le U E E' ∧ RI X E' (fun n => U n ∨ (lo ≤ n ∧ n < e.hi)) (e.ap σ) (a.put dst v) w' := by
  obtain ⟨out, ho, Ec, rs, rfl, hk, hle, hres, hheap, hkept, hblk⟩ := hx
  refine ⟨_, rfl, _, List.mem_map.2 ⟨out, ho, rfl⟩, ?_⟩
  have hfr' := hfr _ (List.mem_map.2 ⟨out, ho, rfl⟩)
  generalize hhi : (outE ns σ.ob lo dst out).hi = hi at hfr'
  have hhi' : hi = lo + (out.k - ns.length) := by rw [← hhi]; rfl
  let E' : Env := ⟨fun m => if lo ≤ m ∧ m < hi then Ec.ι (m - lo + ns.length) else E.ι m, fun m => if lo ≤ m ∧ m < hi then Ec.hi (m - lo + ns.length) else E.hi m⟩
  have hU : ∀ n, U n → ¬ (lo ≤ n ∧ n < hi) := fun n hn h => hfr' n h.1 h.2 hn
  have hE : Env.le U E E' := ⟨fun n hn => if_neg (hU n hn), fun n hn => if_neg (hU n hn)⟩
  have hnsU : ∀ n ∈ ns, U n := fun n hn => by
    obtain ⟨x, hx⟩ := Option.isSome_iff_exists.1 (hns n hn)
    exact (hr.heap.rel n x hx).1
  have hback : RenOK (back ns lo) Ec (fun n => n < out.k) E' (fun n => U n ∨ (lo ≤ n ∧ n < hi)) := fun n m hn hm => by
    unfold back at hm
    split at hm
    · rename_i hlt
      have hmem : m ∈ ns := List.mem_of_getElem? hm
      have hmU := hnsU m hmem
      have hg : ns.getD n 0 = m := by rw [List.getD_eq_getElem?_getD, hm]; rfl
      refine ⟨.inl hmU, ?_, ?_⟩
      · rw [hE.ι m hmU, hle.ι n hlt]; show _ = E.ι (ns.getD n 0); rw [hg]
      · rw [hE.hi m hmU, hle.hi n hlt]; show _ = E.hi (ns.getD n 0); rw [hg]
    · rename_i hge
      injection hm with hm; subst hm
      have hin : lo ≤ lo + (n - ns.length) ∧ lo + (n - ns.length) < hi := by omega
      have he : lo + (n - ns.length) - lo + ns.length = n := by omega
      exact ⟨.inr hin, by show (if _ then _ else _) = _; rw [if_pos hin, he], by show (if _ then _ else _) = _; rw [if_pos hin, he]⟩
  have hsubT : ∀ b, (∃ n x, Aw.look n (sub ns σ.ob) = some x ∧ (E.sub ns).blk n = some b) → ∃ n x, n ∈ ns ∧ Aw.look n σ.ob = some x ∧ E.blk n = some b := by
    rintro b ⟨n, x, h1, h2⟩
    obtain ⟨m, y, h3, h4, h5⟩ := look_subAt h1
    refine ⟨m, y, List.mem_of_getElem? (idx_some h3), h4, ?_⟩
    have := (ren_sub (E := E) (U := U) m n (hr.heap.rel m y h4).1 h3).2.1
    rw [← h2]; unfold Env.blk; rw [this]
  have hstep := hr.step (E' := E') (U' := fun n => U n ∨ (lo ≤ n ∧ n < hi)) (T := fun b => ∃ n x, Aw.look n (sub ns σ.ob) = some x ∧ (E.sub ns).blk n = some b) (rm := ns) (ad := renAll (back ns lo) out.ob out.k) hE (fun n hn => .inl hn) hkept hsubT (fun m y hy => by
      obtain ⟨n, x, h1, h2, h3, h4⟩ := look_renAll hy
      exact ⟨(hback n m h1 h2).1, Xo.ren_rel hback h1 h2 (hheap.rel n x h3).2 h4⟩)
    (fun m y b hy hb => by
      obtain ⟨n, x, h1, h2, h3, h4⟩ := look_renAll hy
      have hb' : Ec.blk n = some b := by rw [← hb]; unfold Env.blk; rw [(hback n m h1 h2).2.1]
      rcases hblk n x b h3 hb' with h | h
      · obtain ⟨n', x', h5, h6, h7⟩ := hsubT b h; exact .inl ⟨n', x', h5, h6, h7⟩
      · exact .inr h)
    (fun m m' y y' b hy hy' hb hb' => by
      obtain ⟨n, x, h1, h2, h3, h4⟩ := look_renAll hy
      obtain ⟨n', x', h1', h2', h3', h4'⟩ := look_renAll hy'
      have e1 : Ec.blk n = some b := by rw [← hb]; unfold Env.blk; rw [(hback n m h1 h2).2.1]
      have e2 : Ec.blk n' = some b := by rw [← hb']; unfold Env.blk; rw [(hback n' m' h1' h2').2.1]
      have := hheap.inj n n' x x' b h3 h3' e1 e2
      subst this
      rw [h2] at h2'; injection h2')
  have hres' := resX_rel (hres.ren hback)
  have hput : ∃ E', Env.le U E E' ∧ RI X E' (fun n => U n ∨ (lo ≤ n ∧ n < hi)) ⟨putL (dst.map fun d => (d, resX (out.res.map (Xp.ren (back ns lo))))) σ.sl, renAll (back ns lo) out.ob out.k ++ dels ns σ.ob⟩ (a.put dst (retv rs)) w' := by
    cases dst with
    | none => exact ⟨E', hE, hstep⟩
    | some d => exact ⟨E', hE, hstep.put (hN d rfl) hres'⟩
  obtain ⟨E'', hE'', hput⟩ := hput
  refine ⟨E'', hE'', hput.same (fun t => rfl) fun n => ?_⟩
  show Aw.look n ((renAll (back ns lo) out.ob out.k).filter _ ++ dels (ns.filter _) σ.ob) = Aw.look n (renAll (back ns lo) out.ob out.k ++ dels ns σ.ob)
  generalize renAll (back ns lo) out.ob out.k = all
  rw [Aw.look_append, Aw.look_append, look_dels, look_dels, Aw.look_filter (p := fun m => !(ns.contains m) || (ns.filter fun n => !(optSame (Aw.look n all) (Aw.look n σ.ob))).contains m)]
  by_cases h1 : n ∈ ns
  · by_cases h2' : optSame (Aw.look n all) (Aw.look n σ.ob) = true
    · have h2 := optSame_eq h2'
      have hp : (!(ns.contains n) || (ns.filter fun n => !(optSame (Aw.look n all) (Aw.look n σ.ob))).contains n) = false := by simp [h1, h2']
      have hnm : n ∉ ns.filter fun n => !(optSame (Aw.look n all) (Aw.look n σ.ob)) := by simp [h2']
      rw [hp, if_neg hnm, if_pos h1, h2]; simp
    · have hp : (!(ns.contains n) || (ns.filter fun n => !(optSame (Aw.look n all) (Aw.look n σ.ob))).contains n) = true := by simp [h1, h2']
      have hnm : n ∈ ns.filter fun n => !(optSame (Aw.look n all) (Aw.look n σ.ob)) := by simp [h1, h2']
      rw [hp, if_pos hnm, if_pos h1]; simp
  · have hp : (!(ns.contains n) || (ns.filter fun n => !(optSame (Aw.look n all) (Aw.look n σ.ob))).contains n) = true := by simp [h1]
    have hnm : n ∉ ns.filter fun n => !(optSame (Aw.look n all) (Aw.look n σ.ob)) := by simp [h1]
    rw [hp, if_neg hnm, if_neg h1]; simp

theorem after_call {ns : List Nat} {dst : Option Nat} {outs : List Out} {e : Ending} {w' : World} (hr : RI X E U σ a w) (hns : ∀ n ∈ ns, (Aw.look n σ.ob).isSome = true) (hN : ∀ d, dst = some d → d < X.N) (hfr : ∀ e ∈ outs.map (outE ns σ.ob lo dst), ∀ n, lo ≤ n → n < e.hi → ¬ U n)
    (hx : XP w (E.sub ns) ns.length (sub ns σ.ob) outs e w') : ∃ v, e = .returned v ∧ ∃ e ∈ outs.map (outE ns σ.ob lo dst), R X (fun n => U n ∨ (lo ≤ n ∧ n < e.hi)) (e.ap σ) (a.put dst v) w' :=
  let ⟨v, h1, e, h2, E', _, h3⟩ := after_callE hr hns hN hfr hx
  ⟨v, h1, e, h2, E', h3⟩

theorem step_call (hT : TabOK P T) (hc : CallOK P call) {g : Operand} {xs : Array Operand} {ts : Array TypeId} {es : List Eff} (hs : Sub μ σ) (he : callE T call μ lo o.dst g xs.toList = some es) (ho : o.op = .call ⟨.value g, xs, ts⟩) (hN : ∀ d, o.dst = some d → d < X.N)
    (hfr : ∀ e ∈ es, ∀ n, lo ≤ n → n < e.hi → ¬ U n) : StepS P X o U σ lo es := by
  intro a w ⟨E, hr⟩
  unfold callE at he
  split at he
  rotate_left; · cases he
  rename_i f first caps more ps htg hps
  simp only at he
  generalize hns : (reach μ.ob 10000 ((first.map Xp.one ++ ps ++ caps.map Xp.one).flatMap Xp.nm ++ more.flatMap Xv.nm) []).reverse = ns at he
  cases hall : (ns.all fun n => (Aw.look n μ.ob).isSome) && T.has ns f with
  | false => rw [hall, cond_false] at he; cases he
  | true =>
    rw [hall, cond_true] at he
    split at he
    rotate_left; · cases he
    rename_i outs hcall
    injection he with he
    rw [Bool.and_eq_true] at hall
    obtain ⟨hall, hhas⟩ := hall
    simp only [List.all_eq_true] at hall
    have hlk : ∀ n ∈ ns, Aw.look n μ.ob = Aw.look n σ.ob := fun n hn => by
      obtain ⟨x, hx⟩ := Option.isSome_iff_exists.1 (hall n hn)
      rw [hx, hs.ob n x hx]
    have hsub : sub ns μ.ob = sub ns σ.ob := subAt_congr hlk
    have hE : ∀ out, outE ns μ.ob lo o.dst out = outE ns σ.ob lo o.dst out := fun out => by
      unfold outE
      have : (ns.filter fun n => !(optSame (Aw.look n (renAll (back ns lo) out.ob out.k)) (Aw.look n μ.ob))) = ns.filter fun n => !(optSame (Aw.look n (renAll (back ns lo) out.ob out.k)) (Aw.look n σ.ob)) :=
        List.filter_congr fun n hn => by rw [hlk n hn]
      simp only [this]
    have hes : es = outs.map (outE ns σ.ob lo o.dst) := by rw [← he]; exact List.map_congr_left fun out _ => hE out
    subst hes
    have hall' : ∀ n ∈ ns, (Aw.look n σ.ob).isSome = true := fun n hn => by rw [← hlk n hn]; exact hall n hn
    have hargs0 := partsX_rel (hs.rd hr) hps
    -- a function, or a round
    have fin : ∀ {e : Ending} {w' : World}, XP w (E.sub ns) ns.length (sub ns μ.ob) outs e w' → nextV o.dst a (fun a' w' => ∃ e ∈ outs.map (outE ns σ.ob lo o.dst), R X (fun n => U n ∨ (lo ≤ n ∧ n < e.hi)) (e.ap σ) a' w') e w' := fun {e w'} hx => by
      rw [hsub] at hx
      obtain ⟨v, rfl, e, hmem, hR⟩ := after_call hr hall' hN hfr hx
      exact ⟨e, hmem, hR⟩
    have fn : ∀ {g' : FuncId} {fs cs : List Value}, f = .fn g' → a.eval g = .func (.func g') fs.toArray cs.toArray → cellsRel E U first fs → cellsRel E U caps cs → wpX P o a w (fun a' w' => ∃ e ∈ outs.map (outE ns σ.ob lo o.dst), R X (fun n => U n ∨ (lo ≤ n ∧ n < e.hi)) (e.ap σ) a' w') := fun {g' fs cs} hf hgv hfs hcs => by
      subst hf
      simp only [Tab.has] at hhas
      obtain ⟨fn, hfn⟩ := Option.isSome_iff_exists.1 hhas
      have hargs := ((partsRel.ones hfs).append hargs0).append (partsRel.ones hcs)
      have hXC := hc _ _ _ _ _ hcall w (E.sub ns) _ (by rw [hsub]; exact heap_sub hr.heap) (hargs.ren ren_sub)
      unfold wpX
      rw [run_call ho hgv (hT.fn g' fn hfn).2 w, OpX_enter]
      have harr : (fs.toArray ++ xs.map a.eval ++ cs.toArray : Array Value) = (fs ++ xs.toList.map a.eval ++ cs).toArray := by
        cases xs; simp
      rw [harr]
      exact Calls.mono hXC fun e w' hx => fin hx
    unfold target at htg
    split at htg
    · rename_i f' hg'
      simp only [Option.some.injEq, Prod.mk.injEq] at htg
      obtain ⟨rfl, rfl, rfl, rfl⟩ := htg
      exact fn (fs := []) (cs := []) rfl (hr.opd (hs.opd hg')) ⟨rfl, fun i c v hc => by simp at hc⟩ ⟨rfl, fun i c v hc => by simp at hc⟩
    · rename_i n hg'
      split at htg
      · rename_i f' first' caps' hl
        simp only [Option.some.injEq, Prod.mk.injEq] at htg
        obtain ⟨rfl, rfl, rfl, rfl⟩ := htg
        obtain ⟨_, h1, _⟩ := hr.opd (hs.opd hg')
        obtain ⟨_, fs, cs, h2, h3, h4⟩ := hr.heap.rel n _ (hs.ob n _ hl)
        exact fn rfl (h1.trans h2) h3 h4
      · rename_i N sl ts sa bo st pe hl
        simp only [Option.some.injEq, Prod.mk.injEq] at htg
        obtain ⟨rfl, rfl, rfl, rfl⟩ := htg
        obtain ⟨_, h1, _⟩ := hr.opd (hs.opd hg')
        obtain ⟨hu, l, f, tmps, df, h2, h3, h4, h5⟩ := hr.heap.rel n _ (hs.ob n _ hl)
        simp only [Tab.has] at hhas
        obtain ⟨m, hm⟩ := Option.isSome_iff_exists.1 hhas
        have hren := ren_sub (E := E) (U := U) (ns := ns) n m hu hm
        have hargs := hargs0.ren (ren_sub (E := E) (U := U) (ns := ns))
        simp only [List.map_nil, List.nil_append, List.append_nil] at hcall
        simp only [Cle.ren, hm, Option.getD_some] at hcall
        have hXC := hc _ _ _ _ _ hcall w (E.sub ns) _ (by rw [hsub]; exact heap_sub hr.heap) hargs l _ hren.1 (hren.2.1.trans h2) h3
        obtain ⟨e1, e2⟩ := hXC
        have hgv : a.eval g = .func (.yield l) #[] #[] := h1.trans h2
        unfold wpX
        have hrun : (execOp a.eval o).run P w = .ok (.round l f ((ts.toArray.zip (xs.map a.eval)).foldl (fun tmps (t, a) => tmps.setIfInBounds t a) tmps) sa bo) w := by
          unfold execOp
          simp only [ho, resolve, hgv, Deferred.ofValue, Sem.run_bind, Sem.run_pure, Result.andThen_ok, invoke]
          rw [show (#[] ++ xs.map a.eval : Array Value) = xs.map a.eval by simp]
          exact run_yield (r := ⟨st, pe, f, tmps, ts.toArray, sa, bo, df⟩) h3 (by simpa using e1)
        rw [hrun, OpX_round]
        have harr : (xs.map a.eval : Array Value) = (xs.toList.map a.eval).toArray := by cases xs; simp
        rw [harr]
        exact RoundX.mono e2 fun v w' hx => fin hx
      · cases htg
    · cases htg
end
end -- nc
end Go.Proofs.YtgjbehfdjnekdaaGreatDoor.Xc
end
section
/- A closed run: regions that draw their order. (The like of Aw9's second half, over the closed run's states.) -/
set_option linter.unusedVariables false
set_option linter.unusedSimpArgs false
namespace Go.Proofs.YtgjbehfdjnekdaaGreatDoor.Xc
noncomputable section
open Go.RowKit
open Go.Proofs.YtgjbehfdjnekdaaGreatDoor.Aw (Kept nlt nle getD_put op_steps kept_drew edges Lin ancOK ancOK.spec lin_range anc_lt)
section
variable {P : Program} {Q : Fin → Act → World → Prop} {X : Ctx} {K : List Item} {σ σ' : XS} {o : Oper} {d : Nat} {ops : Array Oper}

/-- One operation, its guard counted in. -/
def StepG (P : Program) (X : Ctx) (ops : Array Oper) (o : Oper) (U : Us) (σ : XS) (lo : Nat) (es : List Eff) : Prop :=
  ∀ a w, R X U σ a w → if Region.wanted o (yielded ops a.tmps) = true then wpX P o a w (fun a' w' => ∃ e ∈ es, R X (fun n => U n ∨ (lo ≤ n ∧ n < e.hi)) (e.ap σ) a' w')
    else ∃ e ∈ es, R X (fun n => U n ∨ (lo ≤ n ∧ n < e.hi)) (e.ap σ) (a.put o.dst undef) w

/-- A key: a slot (true) or an object's name (false). -/
def Eff.writes (e : Eff) : Bool × Nat → Bool
  | (true, t) => e.dst.toList.any fun x => x.1.beq t
  | (false, n) => (e.rm.any fun m => m.beq n) || e.ad.any fun x => x.1.beq n
def Eff.keys (e : Eff) : List (Bool × Nat) := e.rs.map (fun x => (true, x.1)) ++ e.dst.toList.map (fun x => (true, x.1)) ++ e.ro.map (fun x => (false, x.1)) ++ e.rm.map (fun n => (false, n)) ++ e.ad.map (fun x => (false, x.1))

/-- What lies under a key. -/
def XS.at (σ : XS) : Bool × Nat → Option Xa × Option Xo
  | (true, t) => (Aw.look t σ.sl, none)
  | (false, n) => (none, Aw.look n σ.ob)
def Eff.val (e : Eff) : Bool × Nat → Option Xa × Option Xo
  | (true, t) => (Aw.look t e.dst.toList, none)
  | (false, n) => (none, Aw.look n e.ad)

theorem ap_at (e : Eff) (σ : XS) (k : Bool × Nat) : (e.ap σ).at k = if e.writes k = true then e.val k else σ.at k := by
  obtain ⟨b, n⟩ := k
  obtain ⟨rs, ro, dst, rm, ad, hi⟩ := e
  cases b with
  | true =>
    simp only [XS.at, Eff.ap, look_putL, Eff.writes, Eff.val]
    cases dst with
    | none => rfl
    | some x =>
      obtain ⟨s, v⟩ := x
      by_cases h : n = s
      · subst h; simp [Aw.look_nil, Aw.look_cons]
      · have : s.beq n = false := by cases hb : s.beq n with | false => rfl | true => exact absurd (Nat.eq_of_beq_eq_true hb).symm h
        simp [Aw.look_nil, Aw.look_cons, h, this]
  | false =>
    have hrm : (rm.any fun m => m.beq n) = true ↔ n ∈ rm := by
      rw [List.any_eq_true]
      exact ⟨fun ⟨m, hm, hb⟩ => (Nat.eq_of_beq_eq_true hb) ▸ hm, fun h => ⟨n, h, by simp⟩⟩
    by_cases hw : (⟨rs, ro, dst, rm, ad, hi⟩ : Eff).writes (false, n) = true
    · rw [if_pos hw]
      have hw' : ((rm.any fun m => m.beq n) || ad.any fun x => x.1.beq n) = true := hw
      simp only [XS.at, Eff.ap, Aw.look_append, look_dels, Eff.val]
      by_cases hd : (ad.any fun x => x.1.beq n) = true
      · obtain ⟨x, hx⟩ := Aw.look_some hd; simp [hx]
      · rw [Aw.look_none (Bool.eq_false_iff.2 hd)]
        rw [Bool.eq_false_iff.2 hd, Bool.or_false] at hw'
        simp [hrm.1 hw']
    · rw [if_neg hw]
      have hw' : ¬ ((rm.any fun m => m.beq n) || ad.any fun x => x.1.beq n) = true := hw
      simp only [Bool.or_eq_true, not_or] at hw'
      simp only [XS.at, Eff.ap, Aw.look_append, look_dels]
      have hn : n ∉ rm := fun h => hw'.1 (hrm.2 h)
      rw [Aw.look_none (Bool.eq_false_iff.2 hw'.2)]; simp [hn]

abbrev E0 : Eff := ⟨[], [], none, [], [], 0⟩
def run (es : List Eff) (S : List Nat) (σ : XS) : XS := S.foldl (fun s i => (es.getD i E0).ap s) σ

/-- The effects' order: whoever writes what i reads or writes is ordered with i. -/
def effOK (ops : Array Oper) (anc : List (List Nat)) (es : List Eff) : Bool :=
  (es.length == ops.size) && (List.range ops.size).all fun i => (List.range ops.size).all fun j => (i.beq j) || (anc.getD i []).contains j || (anc.getD j []).contains i || !((es.getD i E0).keys.any fun k => (es.getD j E0).writes k)

/-- Under a key lies what the last writer among those that have run has put there. -/
def resN (es : List Eff) (σ : XS) (k : Bool × Nat) (p : Nat → Bool) : Nat → Option Xa × Option Xo
  | 0 => σ.at k
  | n + 1 => if (p n && (es.getD n E0).writes k) = true then (es.getD n E0).val k else resN es σ k p n

theorem resN_congr {es : List Eff} {k : Bool × Nat} {p q : Nat → Bool} : ∀ {n : Nat}, (∀ i, i < n → (es.getD i E0).writes k = true → p i = q i) → resN es σ k p n = resN es σ k q n
  | 0, _ => rfl
  | n + 1, h => by
    simp only [resN]
    have hn := h n (Nat.lt_succ_self n)
    cases hw : (es.getD n E0).writes k with
    | true => rw [hn hw, resN_congr fun i hi => h i (Nat.lt_succ_of_lt hi)]
    | false => simp only [Bool.and_false, Bool.false_eq_true, if_false]; exact resN_congr fun i hi => h i (Nat.lt_succ_of_lt hi)

theorem resN_top {es : List Eff} {k : Bool × Nat} {p : Nat → Bool} {i : Nat} (hp : p i = true) (hw : (es.getD i E0).writes k = true) : ∀ {n : Nat}, i < n → (∀ j, i < j → j < n → (es.getD j E0).writes k = true → p j = false) → resN es σ k p n = (es.getD i E0).val k
  | 0, h, _ => by omega
  | n + 1, h, ht => by
    simp only [resN]
    by_cases e : i = n
    · subst e; simp only [hp, hw, Bool.and_self, if_true]
    · cases hwn : (es.getD n E0).writes k with
      | true => rw [ht n (by omega) (by omega) hwn]; simp only [Bool.false_and, Bool.false_eq_true, if_false]; exact resN_top hp hw (by omega) fun j h1 h2 => ht j h1 (by omega)
      | false => simp only [Bool.and_false, Bool.false_eq_true, if_false]; exact resN_top hp hw (by omega) fun j h1 h2 => ht j h1 (by omega)

/-- All who write k are ordered. -/
def Chain (anc : List (List Nat)) (es : List Eff) (N : Nat) (k : Bool × Nat) : Prop := ∀ i j, i < N → j < N → (es.getD i E0).writes k = true → (es.getD j E0).writes k = true → i ≠ j → i ∈ anc.getD j [] ∨ j ∈ anc.getD i []

theorem run_at {anc : List (List Nat)} {es : List Eff} (ha : ancOK ops anc = true) {k : Bool × Nat} (hc : Chain anc es ops.size k) {S : List Nat} (h : Lin ops S) : (run es S σ).at k = resN es σ k (fun i => S.contains i) ops.size := by
  induction h with
  | nil =>
    simp only [run, List.foldl_nil]
    have : ∀ n, resN es σ k (fun i => ([] : List Nat).contains i) n = σ.at k := by
      intro n
      induction n with
      | zero => rfl
      | succ n ih => simp only [resN, List.contains_nil, Bool.false_and, Bool.false_eq_true, if_false]; exact ih
    exact (this _).symm
  | @snoc S i h hi hn he ih =>
    have hrun : run es (S ++ [i]) σ = (es.getD i E0).ap (run es S σ) := by simp [run, List.foldl_append]
    rw [hrun, ap_at]
    cases hw : (es.getD i E0).writes k with
    | false =>
      simp only [Bool.false_eq_true, if_false]
      rw [ih]
      refine resN_congr fun j hj hwj => ?_
      have hne : j ≠ i := fun e => by subst e; rw [hw] at hwj; cases hwj
      simp [List.contains_eq_mem, hne]
    | true =>
      simp only [if_true]
      refine (resN_top (p := fun j => (S ++ [i]).contains j) (by simp) hw hn fun j h1 h2 hwj => ?_).symm
      have hjS : j ∉ S := fun hm => by
        rcases hc i j hn h2 hw hwj (by omega) with h3 | h3
        · exact hi (h.anc ha j (h.mem_lt j hm) (h.edge j hm) i h3)
        · have := anc_lt ha i hn j h3; omega
      have hne : j ≠ i := by omega
      simp [List.contains_eq_mem, hjS, hne]

theorem effOK.spec {anc : List (List Nat)} {es : List Eff} (h : effOK ops anc es = true) {i j : Nat} (hi : i < ops.size) (hj : j < ops.size) (hne : i ≠ j) : j ∈ anc.getD i [] ∨ i ∈ anc.getD j [] ∨ ∀ k ∈ (es.getD i E0).keys, (es.getD j E0).writes k = false := by
  simp only [effOK, Bool.and_eq_true, List.all_eq_true, List.mem_range, Bool.or_eq_true, List.contains_iff_mem, Bool.not_eq_true'] at h
  rcases h.2 i hi j hj with ((h1 | h1) | h1) | h1
  · exact absurd (Nat.eq_of_beq_eq_true h1) hne
  · exact .inl h1
  · exact .inr (.inl h1)
  · refine .inr (.inr fun k hk => ?_)
    have := (List.any_eq_false.1 h1) k hk
    simpa using this

theorem keys_of_writes {e : Eff} {k : Bool × Nat} (h : e.writes k = true) : k ∈ e.keys := by
  obtain ⟨b, n⟩ := k
  cases b with
  | true =>
    simp only [Eff.writes, List.any_eq_true] at h
    obtain ⟨x, hx, he⟩ := h
    have := Nat.eq_of_beq_eq_true he
    subst this
    simp only [Eff.keys, List.mem_append, List.mem_map]
    exact .inl (.inl (.inl (.inr ⟨x, hx, rfl⟩)))
  | false =>
    simp only [Eff.writes, Bool.or_eq_true, List.any_eq_true] at h
    simp only [Eff.keys, List.mem_append, List.mem_map]
    rcases h with ⟨m, hm, he⟩ | ⟨x, hx, he⟩
    · have := Nat.eq_of_beq_eq_true he; subst this; exact .inl (.inr ⟨m, hm, rfl⟩)
    · have := Nat.eq_of_beq_eq_true he; subst this; exact .inr ⟨x, hx, rfl⟩

/-- Reads hold when i's turn comes, since they hold in the order of the text. -/
theorem reads_ok {anc : List (List Nat)} {es : List Eff} (ha : ancOK ops anc = true) (he : effOK ops anc es = true) {S T : List Nat} (hS : Lin ops S) (hT : Lin ops T) {i : Nat} (hi : i < ops.size) (hiS : i ∉ S) (hiT : i ∉ T) (h1 : ∀ j ∈ edges ops i, j ∈ S) (h2 : ∀ j ∈ edges ops i, j ∈ T)
    {k : Bool × Nat} (hk : k ∈ (es.getD i E0).keys) : (run es S σ).at k = (run es T σ).at k := by
  have hord : ∀ j, j < ops.size → j ≠ i → (es.getD j E0).writes k = true → j ∈ anc.getD i [] ∨ i ∈ anc.getD j [] := fun j hj hne hw => by
    rcases effOK.spec he hi hj (Ne.symm hne) with h | h | h
    · exact .inl h
    · exact .inr h
    · rw [h k hk] at hw; cases hw
  have hc : Chain anc es ops.size k := fun x y hx hy hwx hwy hne => by
    rcases effOK.spec he hx hy hne with h | h | h
    · exact .inr h
    · exact .inl h
    · rw [h k (keys_of_writes hwx)] at hwy; cases hwy
  rw [run_at ha hc hS, run_at ha hc hT]
  refine resN_congr fun j hj hw => ?_
  have key : ∀ U, Lin ops U → i ∉ U → (∀ j ∈ edges ops i, j ∈ U) → (U.contains j = true ↔ (j ∈ anc.getD i [] ∧ j ≠ i)) := fun U hU hiU hed => by
    rw [List.contains_iff_mem]
    constructor
    · intro hm
      have hne : j ≠ i := fun e => hiU (e ▸ hm)
      refine ⟨?_, hne⟩
      rcases hord j hj hne hw with h | h
      · exact h
      · exact absurd (hU.anc ha j hj (hU.edge j hm) i h) hiU
    · rintro ⟨hm, _⟩
      exact hU.anc ha i hi hed j hm
  have e1 := key S hS hiS h1
  have e2 := key T hT hiT h2
  cases hb : S.contains j with
  | true => rw [hb] at e1; exact (e2.2 (e1.1 rfl)).symm
  | false =>
    cases hb2 : T.contains j with
    | false => rfl
    | true => rw [hb2] at e2; have := e1.2 (e2.1 rfl); rw [hb] at this; cases this


def loAt (c : Nat) (es : List Eff) : Nat → Nat
  | 0 => c
  | i + 1 => (es.getD i E0).hi
def chainOK (c : Nat) (es : List Eff) : Bool := (List.range es.length).all fun i => (loAt c es i).ble (es.getD i E0).hi
/-- The names that are used once the operations of S have run. -/
def US (c : Nat) (es : List Eff) (S : List Nat) : Us := fun n => n < c ∨ ∃ j, j ∈ S ∧ loAt c es j ≤ n ∧ n < (es.getD j E0).hi
theorem lo_mono {c : Nat} {es : List Eff} (h : chainOK c es = true) : ∀ (i : Nat), i ≤ es.length → c ≤ loAt c es i ∧ ∀ j, j < i → (es.getD j E0).hi ≤ loAt c es i
  | 0, _ => ⟨Nat.le_refl _, fun j hj => by omega⟩
  | i + 1, hi => by
    obtain ⟨h1, h2⟩ := lo_mono h i (by omega)
    simp only [chainOK, List.all_eq_true, List.mem_range] at h
    have h3 := Nat.le_of_ble_eq_true (h i (by omega))
    refine ⟨by simp only [loAt]; omega, fun j hj => ?_⟩
    simp only [loAt]
    rcases Nat.lt_or_ge j i with h4 | h4
    · have := h2 j h4; omega
    · have : j = i := by omega
      subst this; exact Nat.le_refl _
theorem us_fresh {c : Nat} {es : List Eff} (h : chainOK c es = true) {S : List Nat} {i : Nat} (hi : i < es.length) (hS : ∀ j ∈ S, j < es.length) (hiS : i ∉ S) : ∀ n, loAt c es i ≤ n → n < (es.getD i E0).hi → ¬ US c es S n := by
  intro n h1 h2 hu
  obtain ⟨m1, m2⟩ := lo_mono h i (by omega)
  rcases hu with hu | ⟨j, hj, h3, h4⟩
  · omega
  · rcases Nat.lt_trichotomy j i with e | e | e
    · have := m2 j e; omega
    · subst e; exact hiS hj
    · have := (lo_mono h j (by have := hS j hj; omega)).2 i e; omega

def Valid (P : Program) (X : Ctx) (ops : Array Oper) (o : Oper) (e : Eff) (lo : Nat) : Prop := ∀ (U : Us) (σ : XS), hasSl σ e.rs → hasOb σ e.ro → (∀ n, lo ≤ n → n < e.hi → ¬ U n) → StepG P X ops o U σ lo [e]

theorem R.draw {U : Us} {a : Act} {w : World} (h : R X U σ a w) : R X U σ a { w with drawn := w.drawn + 1 } := by
  obtain ⟨E, h⟩ := h
  exact ⟨E, h.world (kept_drew w)⟩

theorem gx_draw {id c : Nat} {anc : List (List Nat)} {es : List Eff} (hm : P.follows .mixedOrders = true) (ha : ancOK ops anc = true) (he : effOK ops anc es = true) (hfr : chainOK c es = true)
    (hv : ∀ i o, ops[i]? = some o → Valid P X ops o (es.getD i E0) (loAt c es i)) (ht : ∀ i, i < ops.size → hasSl (run es (List.range i) σ) (es.getD i E0).rs ∧ hasOb (run es (List.range i) σ) (es.getD i E0).ro)
    (g : Gx P Q X K (fun n => n < loAt c es es.length) (run es (List.range ops.size) σ)) : Gx P Q X (.code (.region id ops true) :: K) (fun n => n < c) σ := by
  have hes : es.length = ops.size := by
    simp only [effOK, Bool.and_eq_true] at he
    simpa using he.1
  have main : ∀ (fuel : Nat) (S : List Nat) (listed : Array Bool), listed.size = ops.size → (∀ i, listed.getD i true = true ↔ (i ∈ S ∨ ops.size ≤ i)) → Lin ops S → ops.size ≤ S.length + fuel → ∀ a w, R X (US c es S) (run es S σ) a w →
      wpAnyX P .any ops (fun a' w' => R X (US c es (List.range ops.size)) (run es (List.range ops.size) σ) a' w') fuel listed a w := by
    have hlisted : ∀ (listed : Array Bool), listed.size = ops.size → ∀ j, listed.getD j false = true → j < ops.size := fun listed hsz j hj => by
      rcases Nat.lt_or_ge j ops.size with h | h
      · exact h
      · simp [Array.getD_eq_getD_getElem?, Array.getElem?_eq_none (by omega : listed.size ≤ j)] at hj
    have hTF : ∀ (listed : Array Bool), listed.size = ops.size → ∀ j, j < ops.size → listed.getD j false = listed.getD j true := fun listed hsz j hj => by
      simp [Array.getD_eq_getD_getElem?, Array.getElem?_eq_getElem (by omega : j < listed.size)]
    have hready : ∀ (S : List Nat) (listed : Array Bool), listed.size = ops.size → (∀ i, listed.getD i true = true ↔ (i ∈ S ∨ ops.size ≤ i)) → ∀ i, i ∈ Region.ready .any ops listed ↔ (i < ops.size ∧ i ∉ S ∧ ∀ j ∈ edges ops i, j < ops.size → j ∈ S) ∧ (∀ j ∈ edges ops i, j < ops.size) := by
      intro S listed hsz hl i
      simp only [Region.ready, List.mem_filter, List.mem_range, Bool.and_eq_true, Bool.not_eq_true']
      constructor
      · rintro ⟨hi, h1, h2⟩
        have ho : ops[i]? = some ops[i] := Array.getElem?_eq_getElem hi
        rw [ho] at h2
        simp only [Option.map_some, Option.getD_some, Array.all_eq_true', Bool.or_eq_true, Bool.not_eq_true'] at h2
        have hed : ∀ j ∈ edges ops i, listed.getD j false = true := fun j hj => by
          simp only [edges, ho, List.mem_map, List.mem_filter] at hj
          obtain ⟨e, ⟨he1, he2⟩, rfl⟩ := hj
          rcases h2 e (by simpa using he1) with h | h
          · rw [he2] at h; cases h
          · exact h
        refine ⟨⟨hi, fun hm => ?_, fun j hj hjn => ?_⟩, fun j hj => hlisted listed hsz j (hed j hj)⟩
        · have := (hl i).2 (.inl hm); rw [h1] at this; cases this
        · have := hed j hj
          rw [hTF listed hsz j hjn] at this
          rcases (hl j).1 this with h | h
          · exact h
          · omega
      · rintro ⟨⟨hi, hiS, hed⟩, hlt⟩
        have ho : ops[i]? = some ops[i] := Array.getElem?_eq_getElem hi
        refine ⟨hi, ?_, ?_⟩
        · cases hb : listed.getD i true with
          | false => rfl
          | true => rcases (hl i).1 hb with h | h
                    · exact absurd h hiS
                    · omega
        · rw [ho]
          simp only [Option.map_some, Option.getD_some, Array.all_eq_true', Bool.or_eq_true, Bool.not_eq_true']
          intro e hemem
          cases hb : Region.binds .any e with
          | false => exact .inl rfl
          | true =>
            have hj : e.on ∈ edges ops i := by
              simp only [edges, ho, List.mem_map, List.mem_filter]
              exact ⟨e, ⟨by simpa using hemem, hb⟩, rfl⟩
            have hjn := hlt _ hj
            right
            rw [hTF listed hsz _ hjn]
            exact (hl _).2 (.inl (hed _ hj hjn))
    have hdone : ∀ (S : List Nat) (listed : Array Bool), listed.size = ops.size → (∀ i, listed.getD i true = true ↔ (i ∈ S ∨ ops.size ≤ i)) → Lin ops S → Region.ready .any ops listed = [] → ∀ i, i < ops.size → i ∈ S := by
      intro S listed hsz hl hS hr i
      induction i using Nat.strongRecOn with
      | _ i ih =>
        intro hi
        by_cases hm : i ∈ S
        · exact hm
        · have : i ∈ Region.ready .any ops listed := (hready S listed hsz hl i).2 ⟨⟨hi, hm, fun j hj hjn => ih j ((ancOK.spec ha hi).1 j hj) hjn⟩, fun j hj => by have := (ancOK.spec ha hi).1 j hj; omega⟩
          rw [hr] at this; simp at this
    have hend : ∀ (S : List Nat), Lin ops S → (∀ i, i < ops.size → i ∈ S) → ∀ a w, R X (US c es S) (run es S σ) a w → R X (US c es (List.range ops.size)) (run es (List.range ops.size) σ) a w := by
      intro S hS hall a w hr
      have hchain : ∀ k, Chain anc es ops.size k := fun k x y hx hy hwx hwy hne => by
        rcases effOK.spec he hx hy hne with h | h | h
        · exact .inr h
        · exact .inl h
        · rw [h k (keys_of_writes hwx)] at hwy; cases hwy
      have hat : ∀ k, (run es (List.range ops.size) σ).at k = (run es S σ).at k := fun k => by
        rw [run_at ha (hchain k) hS, run_at ha (hchain k) (lin_range ha _ (Nat.le_refl _))]
        exact resN_congr fun j hj _ => by rw [List.contains_iff_mem.2 (hall j hj), List.contains_iff_mem.2 (List.mem_range.2 hj)]
      refine (hr.weakU fun n hn => ?_).same (fun t => ?_) fun n => ?_
      · rcases hn with hn | ⟨j, hj, h⟩
        · exact .inl hn
        · exact .inr ⟨j, List.mem_range.2 (hS.mem_lt j hj), h⟩
      · have := hat (true, t); simp only [XS.at, Prod.mk.injEq, and_true] at this; exact this
      · have := hat (false, n); simp only [XS.at, Prod.mk.injEq, true_and] at this; exact this
    intro fuel
    induction fuel with
    | zero =>
      intro S listed hsz hl hS hlen a w hr
      have hall : ∀ i, i < ops.size → i ∈ S := by
        -- S has as many members as there are operations
        intro i hi
        exact Classical.byContradiction fun hm => by
          have hnd : S.Nodup := by
            clear hr hlen hl hm
            induction hS with
            | nil => exact List.nodup_nil
            | snoc h hi hn he ih => exact List.nodup_append.2 ⟨ih, by simp, fun a ha b hb => by simp at hb; subst hb; exact fun e => hi (e ▸ ha)⟩
          have hsub : (i :: S) ⊆ List.range ops.size := fun x hx => by
            rcases List.mem_cons.1 hx with rfl | hx
            · simpa using hi
            · simpa using hS.mem_lt x hx
          have := (List.nodup_cons.2 ⟨hm, hnd⟩).length_le_of_subset hsub
          simp at this; omega
      have hr0 : Region.ready .any ops listed = [] := by
        cases hrr : Region.ready .any ops listed with
        | nil => rfl
        | cons x xs =>
          have hx : x ∈ Region.ready .any ops listed := by rw [hrr]; simp
          have := (hready S listed hsz hl x).1 hx
          exact absurd (hall x this.1.1) this.1.2.1
      exact ⟨hr0, hend S hS hall a w hr⟩
    | succ fuel ih =>
      intro S listed hsz hl hS hlen a w hr
      refine ⟨fun hr0 => hend S hS (hdone S listed hsz hl hS hr0) a w hr, fun i hi => ?_⟩
      obtain ⟨⟨hin, hiS, hed⟩, hlt⟩ := (hready S listed hsz hl i).1 hi
      have hed' : ∀ j ∈ edges ops i, j ∈ S := fun j hj => hed j hj (hlt j hj)
      have ho : ops[i]? = some ops[i] := Array.getElem?_eq_getElem hin
      have hTi : ∀ j ∈ edges ops i, j ∈ List.range i := fun j hj => by simpa using (ancOK.spec ha hin).1 j hj
      have hkeys : ∀ k ∈ (es.getD i E0).keys, (run es S σ).at k = (run es (List.range i) σ).at k := fun k hk =>
        reads_ok ha he hS (lin_range ha i (by omega)) hin hiS (by simp) hed' hTi hk
      have hval := hv i _ ho (US c es S) (run es S σ) (fun t v htv => by
          have hk := hkeys (true, t) (by simp only [Eff.keys, List.mem_append, List.mem_map]; exact .inl (.inl (.inl (.inl ⟨_, htv, rfl⟩))))
          simp only [XS.at, Prod.mk.injEq, and_true] at hk
          rw [hk]; exact (ht i hin).1 t v htv) (fun n x hnx => by
          have hk := hkeys (false, n) (by simp only [Eff.keys, List.mem_append, List.mem_map]; exact .inl (.inl (.inr ⟨_, hnx, rfl⟩)))
          simp only [XS.at, Prod.mk.injEq, true_and] at hk
          rw [hk]; exact (ht i hin).2 n x hnx) (us_fresh hfr (by omega) (fun j hj => by have := hS.mem_lt j hj; omega) hiS)
      have huse : ∀ n, (US c es S n ∨ (loAt c es i ≤ n ∧ n < (es.getD i E0).hi)) → US c es (S ++ [i]) n := fun n hn => by
        rcases hn with (hn | ⟨j, hj, h⟩) | h
        · exact .inl hn
        · exact .inr ⟨j, List.mem_append_left _ hj, h⟩
        · exact .inr ⟨i, by simp, h⟩
      have hnew : Lin ops (S ++ [i]) := .snoc hS hiS hin hed'
      have hrun : run es (S ++ [i]) σ = (es.getD i E0).ap (run es S σ) := by simp [run, List.foldl_append]
      have hl' : ∀ x, (listed.setIfInBounds i true).getD x true = true ↔ (x ∈ S ++ [i] ∨ ops.size ≤ x) := fun x => by
        rw [Array.getD_eq_getD_getElem?, Array.getElem?_setIfInBounds]
        by_cases e : i = x
        · subst e; simp [hsz, hin]
        · have := hl x
          rw [Array.getD_eq_getD_getElem?] at this
          simp only [if_neg e, List.mem_append, List.mem_singleton]
          rw [this]
          constructor
          · rintro (h | h)
            · exact .inl (.inl h)
            · exact .inr h
          · rintro ((h | h) | h)
            · exact .inl h
            · exact absurd h.symm e
            · exact .inr h
      have hnext : ∀ a' w', (∃ e ∈ [es.getD i E0], R X (fun n => US c es S n ∨ (loAt c es i ≤ n ∧ n < e.hi)) (e.ap (run es S σ)) a' w') → wpAnyX P .any ops (fun a' w' => R X (US c es (List.range ops.size)) (run es (List.range ops.size) σ) a' w') fuel (listed.setIfInBounds i true) a' w' := fun a' w' ⟨e, hmem, h⟩ => by
        rw [List.mem_singleton] at hmem; subst hmem
        exact ih (S ++ [i]) _ (by simpa using hsz) hl' hnew (by simp; omega) a' w' (by rw [hrun]; exact h.weakU huse)
      unfold wpOpX
      rw [ho]
      have hs := hval a w hr
      simp only
      by_cases e : Region.wanted ops[i] (yielded ops a.tmps) = true
      · rw [if_pos e] at hs ⊢
        exact wpX_mono hnext hs
      · rw [if_neg e] at hs ⊢
        exact hnext _ _ hs
  intro a w hr b cs hb
  have hr' : R X (US c es []) σ a { w with drawn := w.drawn + 1 } := hr.draw.weakU fun n hn => .inl hn
  have hwp := main ops.size [] (Array.replicate ops.size false) (by simp) (fun i => by
      by_cases e : i < ops.size
      · simp [Array.getD_eq_getD_getElem?, e]
      · simp [Array.getD_eq_getD_getElem?, e]; try omega) .nil (by simp) a _ hr'
  obtain ⟨a1, w1, hq, harr⟩ := draw_steps (id := id) hm hwp b K cs
  obtain ⟨e2, a2, w2, hq2, harr2⟩ := g a1 w1 (hq.weakU fun n hn => by
    obtain ⟨m1, m2⟩ := lo_mono hfr es.length (Nat.le_refl _)
    rcases hn with hn | ⟨j, hj, h⟩
    · omega
    · have := m2 j (by rw [hes]; exact List.mem_range.1 hj); omega) b cs hb
  exact ⟨e2, a2, w2, hq2, .of_steps harr harr2⟩
end
end -- nc
end Go.Proofs.YtgjbehfdjnekdaaGreatDoor.Xc
end
