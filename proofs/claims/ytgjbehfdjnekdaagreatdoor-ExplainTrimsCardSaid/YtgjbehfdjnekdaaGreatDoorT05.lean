/- Parts of the proof of one statement: Aw8. -/
import Derived.Test.YtgjbehfdjnekdaaGreatDoorT04
set_option linter.all false
section
/- The framework's appends, and rows that become what nobody writes any more. -/
set_option linter.unusedVariables false
set_option linter.unusedSimpArgs false
namespace Go.Proofs.YtgjbehfdjnekdaaGreatDoor.Aw
noncomputable section
open Go.RowKit
section
variable {P : Program} {Q : Exit → Act → World → Prop} {X : Ctx} {K : List Item} {σ σ' : St} {o : Oper} {d : Nat}

/-- The cells of some elements, one behind the other. -/
def ElsOf (w : World) (M : Cells) (k : Nat) (els : List (List Pred)) (vs : List Value) : Prop :=
  vs.length = els.length * k ∧ ∀ (i : Nat) (ps : List Pred), els[i]? = some ps → ps.length = k ∧ ∀ (j : Nat) (p : Pred), ps[j]? = some p → ∃ c, vs[i * k + j]? = some c ∧ p.p w M c

theorem ElsOf.mono {w w' : World} {M M' : Cells} {k : Nat} {els : List (List Pred)} {vs : List Value} (h : ElsOf w M k els vs) (he : Ext M w w') (hM : ∀ b o, b < w.heap.size → M' b o → M b o) : ElsOf w' M' k els vs :=
  ⟨h.1, fun i ps hi => ⟨(h.2 i ps hi).1, fun j p hj => by
    obtain ⟨c, hc, hp⟩ := (h.2 i ps hi).2 j p hj
    exact ⟨c, hc, p.mono hp he hM⟩⟩⟩

theorem ElsOf.append {w : World} {M : Cells} {k : Nat} {els fls : List (List Pred)} {vs us : List Value} (h : ElsOf w M k els vs) (g : ElsOf w M k fls us) : ElsOf w M k (els ++ fls) (vs ++ us) := by
  refine ⟨by rw [List.length_append, List.length_append, h.1, g.1, Nat.add_mul], fun i ps hi => ?_⟩
  rcases Nat.lt_or_ge i els.length with e | e
  · rw [List.getElem?_append_left e] at hi
    refine ⟨(h.2 i ps hi).1, fun j p hj => ?_⟩
    obtain ⟨c, hc, hp⟩ := (h.2 i ps hi).2 j p hj
    have hlt : i * k + j < vs.length := by rcases Nat.lt_or_ge (i * k + j) vs.length with h | h; exact h; simp [List.getElem?_eq_none h] at hc
    exact ⟨c, by rw [List.getElem?_append_left hlt]; exact hc, hp⟩
  · rw [List.getElem?_append_right e] at hi
    refine ⟨(g.2 _ ps hi).1, fun j p hj => ?_⟩
    obtain ⟨c, hc, hp⟩ := (g.2 _ ps hi).2 j p hj
    have : vs.length ≤ i * k + j := by rw [h.1]; have := Nat.mul_le_mul_right k e; omega
    refine ⟨c, ?_, hp⟩
    rw [List.getElem?_append_right this, h.1, ← hc]
    congr 1
    have e2 : i * k = (i - els.length) * k + els.length * k := by rw [← Nat.add_mul]; congr 1; omega
    omega

theorem ElsOf.one {w : World} {M : Cells} {k : Nat} {els : List (List Pred)} {vs : List Value} (h : ElsOf w M k els vs) (hk : 0 < k) : ∀ v ∈ vs, v.oneCell' = true := by
  intro v hv
  obtain ⟨t, ht, rfl⟩ := List.getElem_of_mem hv
  have hlt : t < els.length * k := by rw [← h.1]; exact ht
  have hi : t / k < els.length := Nat.div_lt_of_lt_mul (by rw [Nat.mul_comm]; exact hlt)
  obtain ⟨hl, hh⟩ := h.2 (t / k) els[t / k] (List.getElem?_eq_getElem hi)
  have hj : t % k < els[t / k].length := by rw [hl]; exact Nat.mod_lt _ hk
  obtain ⟨c, hc, hp⟩ := hh (t % k) _ (List.getElem?_eq_getElem hj)
  rw [Nat.mul_comm, Nat.div_add_mod, List.getElem?_eq_getElem ht] at hc
  injection hc with hc
  rw [hc]
  exact Pred.one _ hp

/-- Out of cell by cell: the cells as one list. -/
theorem els_of_cells {w : World} {M : Cells} {k b q : Nat} : ∀ {els : List (List Pred)}, (∀ ps ∈ els, ps.length = k) → (∀ (i : Nat) (ps : List Pred), els[i]? = some ps → ∀ (j : Nat) (p : Pred), ps[j]? = some p → ∃ c, w.cell? ⟨b, q + i * k + j, none⟩ = some c ∧ p.p w M c) →
    ∃ vs : List Value, ElsOf w M k els vs ∧ ∀ t v, vs[t]? = some v → w.cell? ((⟨b, q, none⟩ : Addr).add t) = some v := by
  intro els
  induction els generalizing q with
  | nil => intro _ _; exact ⟨[], ⟨by simp, fun i ps hi => by simp at hi⟩, fun t v hv => by simp at hv⟩
  | cons ps els ih =>
    intro hk h
    have hpk := hk ps (by simp)
    have h0 := h 0 ps rfl
    have hat : ∃ us : List Value, us.length = ps.length ∧ (∀ (j : Nat) (p : Pred), ps[j]? = some p → ∃ c, us[j]? = some c ∧ p.p w M c) ∧ ∀ t v, us[t]? = some v → w.cell? ((⟨b, q, none⟩ : Addr).add t) = some v := by
      clear ih h hk hpk
      induction ps generalizing q with
      | nil => exact ⟨[], rfl, fun j p hj => by simp at hj, fun t v hv => by simp at hv⟩
      | cons p ps ih =>
        obtain ⟨c, hc, hp⟩ := h0 0 p rfl
        obtain ⟨us, e1, e2, e3⟩ := ih (q := q + 1) fun j p' hj => by
          obtain ⟨c', hc', hp'⟩ := h0 (j + 1) p' (by simpa using hj)
          exact ⟨c', by rw [← hc']; congr 2; omega, hp'⟩
        refine ⟨c :: us, by simp [e1], fun j p' hj => ?_, fun t v hv => ?_⟩
        · cases j with
          | zero => simp only [List.getElem?_cons_zero, Option.some.injEq] at hj; subst hj; exact ⟨c, rfl, hp⟩
          | succ j => exact e2 j p' (by simpa using hj)
        · cases t with
          | zero => simp only [List.getElem?_cons_zero, Option.some.injEq] at hv; subst hv; rw [add_add, ← hc]; congr 2; omega
          | succ t =>
            have := e3 t v (by simpa using hv)
            rw [add_add] at this ⊢
            rw [← this]; congr 2; omega
    obtain ⟨us, e1, e2, e3⟩ := hat
    obtain ⟨vs, g1, g2⟩ := ih (q := q + k) (fun ps' h' => hk ps' (by simp [h'])) fun i ps' hi j p hj => by
      obtain ⟨c, hc, hp⟩ := h (i + 1) ps' (by simpa using hi) j p hj
      exact ⟨c, by rw [← hc]; congr 2; rw [Nat.succ_mul]; omega, hp⟩
    have hx : ElsOf w M k [ps] us := ⟨by simp [e1, hpk], fun i ps' hi => by
      cases i with
      | zero => simp only [List.getElem?_cons_zero, Option.some.injEq] at hi; subst hi; exact ⟨hpk, fun j p hj => by obtain ⟨c, hc, hp⟩ := e2 j p hj; exact ⟨c, by simpa using hc, hp⟩⟩
      | succ i => simp at hi⟩
    refine ⟨us ++ vs, by simpa using hx.append g1, fun t v hv => ?_⟩
    rcases Nat.lt_or_ge t us.length with ht | ht
    · rw [List.getElem?_append_left ht] at hv; exact e3 t v hv
    · rw [List.getElem?_append_right ht] at hv
      have := g2 _ v hv
      rw [add_add] at this ⊢
      rw [← this]; congr 2; omega

/-- What is appended: a value of a slice's kind, and its elements. -/
def News (w : World) (M : Cells) (k : Nat) (els : List (List Pred)) (x : Value) : Prop :=
  ∃ a cap vs, x = .slice a els.length cap ∧ ElsOf w M k els vs ∧ ∀ t v, vs[t]? = some v → ∃ ad : Addr, a = some ad ∧ w.cell? (ad.add t) = some v

theorem news_dat {w : World} {M : Cells} {k : Nat} {els : List (List Pred)} {x : Value} (h : (elsP k els).p w M x) : News w M k els x := by
  obtain ⟨_, h⟩ := h
  rcases h with ⟨rfl, a, cap, rfl⟩ | ⟨b, q, cap, rfl, hcap, hh⟩
  · exact ⟨a, cap, [], rfl, ⟨by simp, fun i ps hi => by simp at hi⟩, fun t v hv => by simp at hv⟩
  · obtain ⟨vs, h1, h2⟩ := els_of_cells (w := w) (M := M) (k := k) (b := b) (q := q) (els := els) (fun ps hps => by obtain ⟨i, hi, rfl⟩ := List.getElem_of_mem hps; exact (hh i _ (List.getElem?_eq_getElem hi)).1)
      fun i ps hi j p hj => by obtain ⟨c, _, hc, hp⟩ := (hh i ps hi).2 j p hj; exact ⟨c, hc, hp⟩
    exact ⟨some ⟨b, q, none⟩, cap, vs, rfl, h1, fun t v hv => ⟨_, rfl, h2 t v hv⟩⟩
theorem news_row {ι : Nat → Value} {w : World} {M : Cells} {n k : Nat} {F : Cells} {y : Ob} {els : List (List Pred)} (h : y.rel ι w M n F) (hy : y.isRow k els) : News w M k els (ι n) := by
  obtain ⟨hk, _, hs⟩ := Ob.rel_slice h hy
  rcases hs with ⟨rfl, hs⟩ | ⟨b, q, cap, hs, hcap, _, hh⟩
  · exact ⟨none, 0, [], hs, ⟨by simp, fun i ps hi => by simp at hi⟩, fun t v hv => by simp at hv⟩
  · obtain ⟨vs, h1, h2⟩ := els_of_cells hk hh
    exact ⟨some ⟨b, q, none⟩, cap, vs, hs, h1, fun t v hv => ⟨_, rfl, h2 t v hv⟩⟩

theorem news_first {w : World} {M : Cells} {k : Nat} {els : List (List Pred)} {x : Value} (h : News w M k els x) : ∃ a cap vs, x = .slice a els.length cap ∧ ElsOf w M k els vs ∧
    ∀ w' : World, (∀ ad v, w.cell? ad = some v → w'.cell? ad = some v) → (Builtin.firstCells k els.length x).run P w' = .ok vs.toArray w' := by
  obtain ⟨a, cap, vs, rfl, h1, h2⟩ := h
  refine ⟨a, cap, vs, rfl, h1, fun w' hw => ?_⟩
  cases a with
  | none =>
    have : vs = [] := by
      cases vs with
      | nil => rfl
      | cons v vs => obtain ⟨ad, e, _⟩ := h2 0 v rfl; cases e
    subst this
    rfl
  | some ad =>
    refine run_firstCells_some (P := P) w' k els.length ad els.length cap vs h1.1 fun t v hv => ?_
    obtain ⟨ad', e, hc⟩ := h2 t v hv
    injection e with e; subst e
    exact hw _ _ hc

theorem run_app_in {w w1 : World} {T ty E : TypeId} {i : TypeInfo} (hu : P.underlying T = some (.slice E)) (hi : P.info? E = some i) {base : Option Addr} {n c m : Nat} {xa : Option Addr} {xc : Nat} {news : List Value}
    (hf : (Builtin.firstCells i.size m (.slice xa m xc)).run P w = .ok news.toArray w) (hroom : n + m ≤ c) (hst : ∀ a, base = some a → (storeCells (a.add (n * i.size)) news).run P w = .ok () w1) (hno : base = none → w1 = w) :
    (Builtin.append_ #[T, T] ty #[.slice base n c, .slice xa m xc]).run P w = .ok (.slice base (n + m) c) w1 := by
  cases base with
  | none => have := hno rfl; subst this; simp [Builtin.append_, run_underlying hu, sizeOf, typeInfo, hi, Builtin.lenOf, hroom, hf]
  | some a => have := hst a rfl; simp [Builtin.append_, run_underlying hu, sizeOf, typeInfo, hi, Builtin.lenOf, hroom, hf, this]
theorem run_app_new {w : World} {T ty E : TypeId} {i : TypeInfo} {z : Value} (hu : P.underlying T = some (.slice E)) (hi : P.info? E = some i) (hz : i.zero = some z) {base : Option Addr} {n c m : Nat} {xa : Option Addr} {xc : Nat} {olds news : List Value}
    (hf : (Builtin.firstCells i.size m (.slice xa m xc)).run P w.drew = .ok news.toArray w.drew) (hfo : (Builtin.firstCells i.size n (.slice base n c)).run P w.drew = .ok olds.toArray w.drew)
    (hg : c < n + m) (h63 : n + m ≤ 9223372036854775807) (hfit : Builtin.nextslicecap (n + m) c * i.bytes ≤ 281474976710656) :
    (Builtin.append_ #[T, T] ty #[.slice base n c, .slice xa m xc]).run P w =
      .ok (.slice (some ⟨w.heap.size, 0, none⟩) (n + m) (grownCap w (n + m) c E)) (w.drew.alloc (.cells (olds.toArray ++ news.toArray ++ Builtin.zeroCells z.cells (grownCap w (n + m) c E - (n + m))) E)) := by
  have hn : ¬ (n + m ≤ c) := by omega
  have h63' : ¬ (9223372036854775807 < ((n : Int) + (m : Int))) := by omega
  have h48' : ¬ (281474976710656 < Builtin.nextslicecap (n + m) c * i.bytes) := by omega
  simp [Builtin.append_, run_underlying hu, sizeOf, typeInfo, zeroValue, hi, hz, Builtin.lenOf, hn, h63', h48', Question.forced, hf, hfo, newRow, grownCap]
  congr 2
  rw [← Array.append_assoc]
  simp

theorem R.weak' {a : Act} {w : World} (h : R X σ a w) (hs : ∀ t v, look t σ'.sl = some v → ∃ u, look t σ.sl = some u ∧ u.le v) (ho : ∀ n, look n σ'.ob = look n σ.ob) : R X σ' a w := by
  obtain ⟨ι, F, h⟩ := h
  exact ⟨ι, F, { h with
    none_ := fun n hn => h.none_ n (by rw [← ho]; exact hn)
    obj := fun n x hx => h.obj n x (by rw [← ho]; exact hx)
    slot := fun t v hv => by obtain ⟨u, hu, hle⟩ := hs t v hv; exact hle _ _ _ _ (h.slot t u hu) }⟩

/-- append onto a row of the call's own. -/
theorem append_core (n' : Nat) {T E : TypeId} {i : TypeInfo} {z : Value} {x y : Operand} {n : Nat} {els fls : List (List Pred)} {r : List (List Pred)} (hu : P.underlying T = some (.slice E)) (hi : P.info? E = some i) (hz : i.zero = some z) (hzs : z.cells.size = i.size) (h0 : 0 < i.size) (hby : 0 < i.bytes)
    (ho : o.op = .call { callee := .builtin .append, args := #[x, y], argTypes := #[T, T] }) (hd : o.dst = some d) (hN : d < X.N) (hb : look n σ.ob = some (.row E i.size els))
    (hfit : (els.length + fls.length) * i.bytes ≤ 140737488355328) (hn : σ.fresh n' = true) (hr : els ++ fls = r) {a : Act} {w : World} {ι : Nat → Value} {F : Nat → Cells} (h : RI X ι F σ a w) (he : a.eval x = ι n) (hy : News w (Mof X.M0 F) i.size fls (a.eval y)) :
    o.wp P a w (fun a' w' => R X ((⟨σ.sl, (n', .row E i.size r) :: σ.ob.filter fun x => !(x.1.beq n)⟩ : St).put d (.val (.one (.ref n' 0)))) a' w') (fun _ _ _ => False) := by
  subst hr
  have hnn : n ≠ n' := by
    intro e; subst e
    simp only [St.fresh, Bool.and_eq_true, List.all_eq_true] at hn
    have := (hn.2 _ (look_mem hb)).2
    simp at this
  have hon := h.obj n _ hb
  obtain ⟨hk, hlen, hs⟩ := id hon
  obtain ⟨xa, xc, news, hxe, hnews, hnf⟩ := news_first (P := P) hy
  have hbnd : els.length + fls.length ≤ 140737488355328 := Nat.le_trans (Nat.le_mul_of_pos_right _ hby) hfit
  have hn1 := hnews.one h0
  have hkf : ∀ ps ∈ els ++ fls, ps.length = i.size := by
    intro ps hps
    rcases List.mem_append.1 hps with hps | hps
    · exact hk ps hps
    · obtain ⟨t, ht, rfl⟩ := List.getElem_of_mem hps; exact (hnews.2 t _ (List.getElem?_eq_getElem ht)).1
  have hLEN : (els ++ fls).length ≤ LEN := by rw [List.length_append]; exact hbnd
  -- the state behind it, whichever way it goes: n has gone, n' stands for the new row
  have fin : ∀ (v : Value) (w' : World) (G : Cells), Kept (fun b q => F n b q) w w' → (∀ b q, G b q → (F n b q ∨ w.heap.size ≤ b) ∧ b < w'.heap.size) → (∀ b q, F n b q → w'.heap[b]? = w.heap[b]? ∨ True) →
      (Ob.row E i.size (els ++ fls)).rel (upd ι n' v) w' (Mof X.M0 (upd (upd F n fun _ _ => False) n' G)) n' G → v.oneCell' = true →
      R X ((⟨σ.sl, (n', .row E i.size (els ++ fls)) :: σ.ob.filter fun x => !(x.1.beq n)⟩ : St).put d (.val (.one (.ref n' 0)))) (a.put (some d) v) w' := by
    intro v w' G hkept hG _ hob hv1
    simp only [St.fresh, Bool.and_eq_true, List.all_eq_true] at hn
    obtain ⟨hfs, hfo⟩ := hn
    have hE : Ext (Mof X.M0 F) w w' := hkept.ext fun b q hf => Mof_F hf
    have hno : look n' σ.ob = none := by
      cases hl : look n' σ.ob with
      | none => rfl
      | some y => have := (hfo _ (look_mem hl)).2; simp at this
    have hFn' : ∀ b q, ¬ F n' b q := h.none_ n' hno
    let F' := upd (upd F n fun _ _ => False) n' G
    have hF'n : ∀ b q, ¬ F' n b q := fun b q hf => by simp only [F', upd_other _ _ hnn, upd_same] at hf
    have hF'o : ∀ m, m ≠ n → m ≠ n' → F' m = F m := fun m h1 h2 => by simp only [F', upd_other _ _ h1, upd_other _ _ h2]
    have hMM : ∀ b q, b < w.heap.size → Mof X.M0 F' b q → Mof X.M0 F b q := by
      rintro b q hb' (hm | ⟨m, hm⟩)
      · exact .inl hm
      · by_cases e : m = n'
        · subst e; simp only [F', upd_same] at hm; rcases (hG b q hm).1 with hh | hh
          · exact .inr ⟨n, hh⟩
          · omega
        · by_cases e2 : m = n
          · subst e2; exact absurd hm (hF'n b q)
          · rw [hF'o m e2 e] at hm; exact .inr ⟨m, hm⟩
    have hlookf : ∀ m z, look m (σ.ob.filter fun x => !(x.1.beq n)) = some z → m ≠ n ∧ look m σ.ob = some z := by
      intro m z
      induction σ.ob with
      | nil => intro hh; simp [look_nil, look_cons] at hh
      | cons p l ih =>
        obtain ⟨pn, pz⟩ := p
        intro hh
        by_cases e : (!(pn.beq n)) = true
        · rw [List.filter_cons_of_pos (by simpa using e)] at hh
          simp only [look_nil, look_cons] at hh ⊢
          by_cases e2 : m = pn
          · rw [if_pos e2] at hh ⊢; exact ⟨by rw [e2]; exact nbeq e, hh⟩
          · rw [if_neg e2] at hh ⊢; exact ih hh
        · rw [List.filter_cons_of_neg (by simpa using e)] at hh
          obtain ⟨h1, h2⟩ := ih hh
          refine ⟨h1, ?_⟩
          simp only [look_nil, look_cons]
          rw [if_neg]
          · exact h2
          · intro e2
            have : pn = n := by simpa using e
            exact h1 (e2.trans this)
    have hlookn : ∀ m, m ≠ n → look m σ.ob = none ∨ (look m (σ.ob.filter fun x => !(x.1.beq n))).isSome := by
      intro m hm
      induction σ.ob with
      | nil => exact .inl rfl
      | cons p l ih =>
        obtain ⟨pn, pz⟩ := p
        by_cases e2 : m = pn
        · right
          rw [List.filter_cons_of_pos (by
            cases hb' : pn.beq n with
            | false => rfl
            | true => exact absurd (e2.trans (Nat.eq_of_beq_eq_true hb')) hm)]
          simp [look_nil, look_cons, e2]
        · rcases ih with ih | ih
          · left; simp only [look_nil, look_cons, if_neg e2]; exact ih
          · right
            by_cases e : (!(pn.beq n)) = true
            · rw [List.filter_cons_of_pos (by simpa using e)]; simp only [look_nil, look_cons, if_neg e2]; exact ih
            · rw [List.filter_cons_of_neg (by simpa using e)]; exact ih
    have hag : ∀ m, m ≠ n' → upd ι n' v m = ι m := fun m hm => upd_other _ _ hm
    have hRI : RI X (upd ι n' v) F' ⟨σ.sl, (n', .row E i.size (els ++ fls)) :: σ.ob.filter fun x => !(x.1.beq n)⟩ a w' := {
      none_ := fun m hm b q hf => by
        simp only [look_nil, look_cons] at hm
        split at hm
        · cases hm
        · rename_i e
          by_cases e2 : m = n
          · subst e2; exact hF'n b q hf
          · rw [hF'o m e2 e] at hf
            rcases hlookn m e2 with hh | hh
            · exact h.none_ m hh b q hf
            · rw [hm] at hh; cases hh
      obj := fun m y' hm => by
        simp only [look_nil, look_cons] at hm
        split at hm
        · rename_i e; subst e; injection hm with hm; subst hm
          show Ob.rel _ _ _ m (F' m) _
          have : F' m = G := by simp only [F', upd_same]
          rw [this]; exact hob
        · rename_i e
          obtain ⟨e2, hm'⟩ := hlookf m y' hm
          rw [hF'o m e2 e]
          refine Ob.rel_fresh e (hfo _ (look_mem hm')).1 (Ob.rel_mono (h.obj m y' hm') hE hMM fun b ⟨q, hq⟩ => hkept.blk b (h.lt m b q hq) fun q' hq' => ?_) hag
          have key := h.one_block hm' hb hq hq'
          exact e2 key
      disj := fun m m' b q h1 h2 => by
        by_cases e1 : m = n'
        · by_cases e2 : m' = n'
          · rw [e1, e2]
          · subst e1
            simp only [F', upd_same] at h1
            by_cases e3 : m' = n
            · subst e3; exact absurd h2 (hF'n b q)
            · rw [hF'o m' e3 e2] at h2
              rcases (hG b q h1).1 with hh | hh
              · exact absurd (h.disj _ _ b q hh h2).symm e3
              · have := h.lt m' b q h2; omega
        · by_cases e2 : m' = n'
          · subst e2
            simp only [F', upd_same] at h2
            by_cases e3 : m = n
            · subst e3; exact absurd h1 (hF'n b q)
            · rw [hF'o m e3 e1] at h1
              rcases (hG b q h2).1 with hh | hh
              · exact absurd (h.disj _ _ b q hh h1).symm e3
              · have := h.lt m b q h1; omega
          · by_cases e3 : m = n
            · subst e3; exact absurd h1 (hF'n b q)
            · by_cases e4 : m' = n
              · subst e4; exact absurd h2 (hF'n b q)
              · rw [hF'o m e3 e1] at h1; rw [hF'o m' e4 e2] at h2; exact h.disj m m' b q h1 h2
      apart := fun m b q hf => by
        by_cases e1 : m = n'
        · subst e1; simp only [F', upd_same] at hf
          rcases (hG b q hf).1 with hh | hh
          · exact h.apart n b q hh
          · intro h0; have := h.m0lt b q h0; have := h.kept.size; omega
        · by_cases e3 : m = n
          · subst e3; exact absurd hf (hF'n b q)
          · rw [hF'o m e3 e1] at hf; exact h.apart m b q hf
      old := fun m b q hf hb' => by
        by_cases e1 : m = n'
        · subst e1; simp only [F', upd_same] at hf
          rcases (hG b q hf).1 with hh | hh
          · exact h.old n b q hh hb'
          · have := h.kept.size; omega
        · by_cases e3 : m = n
          · subst e3; exact absurd hf (hF'n b q)
          · rw [hF'o m e3 e1] at hf; exact h.old m b q hf hb'
      lt := fun m b q hf => by
        by_cases e1 : m = n'
        · subst e1; simp only [F', upd_same] at hf; exact (hG b q hf).2
        · by_cases e3 : m = n
          · subst e3; exact absurd hf (hF'n b q)
          · rw [hF'o m e3 e1] at hf; exact Nat.lt_of_lt_of_le (h.lt m b q hf) hkept.size
      m0lt := h.m0lt
      finM := h.finM
      slot := fun t u hu => AV.rel_fresh (hfs _ (look_mem hu)) (AV.rel_mono (h.slot t u hu) hE hMM) hag
      size := h.size
      defers := h.defers
      kept := h.kept.step hkept fun b q hb' hf => h.old n b q hf hb' }
    exact ⟨_, _, hRI.put hN ⟨by show _ = vadd (upd ι n' v n') 0; rw [upd_same, vadd0], hv1⟩⟩
  have hexec : ∀ v w', (Builtin.append_ #[T, T] o.type #[ι n, a.eval y]).run P w = .ok v w' → (execOp a.eval o).run P w = .ok (.value v) w' := by
    intro v w' hrun
    unfold execOp
    simp only [ho, resolve, invoke, builtin, Sem.run_bind, Sem.run_pure, Result.andThen_ok, List.map_toArray, List.map_cons, List.map_nil, he, hrun]
  have new : ∀ (base : Option Addr) (c : Nat) (olds : List Value), ι n = .slice base els.length c → ElsOf w (Mof X.M0 F) i.size els olds → (Builtin.firstCells i.size els.length (.slice base els.length c)).run P w.drew = .ok olds.toArray w.drew → c < els.length + fls.length →
      R X ((⟨σ.sl, (n', .row E i.size (els ++ fls)) :: σ.ob.filter fun x => !(x.1.beq n)⟩ : St).put d (.val (.one (.ref n' 0)))) (a.put (some d) (.slice (some ⟨w.heap.size, 0, none⟩) (els.length + fls.length) (grownCap w (els.length + fls.length) c E)))
        (w.drew.alloc (.cells (olds.toArray ++ news.toArray ++ Builtin.zeroCells z.cells (grownCap w (els.length + fls.length) c E - (els.length + fls.length))) E)) := by
    intro base c olds hι hold hfo hg
    have hge := grownCap_ge w (els.length + fls.length) c E
    have hcm : grownCap w (els.length + fls.length) c E ≤ maxLen := grownCap_le_maxLen w _ c E (by simp only [maxLen]; omega)
    have hk1 : Kept (fun _ _ => False) w (w.drew.alloc (.cells (olds.toArray ++ news.toArray ++ Builtin.zeroCells z.cells (grownCap w (els.length + fls.length) c E - (els.length + fls.length))) E)) := (kept_drew w).trans (kept_alloc w.drew _)
    refine fin _ _ (fun b _ => b = w.heap.size) (hk1.mono fun _ _ h => h.elim) (fun b q e => by have e : b = w.heap.size := e; subst e; exact ⟨.inr (Nat.le_refl _), by simp⟩) (fun _ _ _ => .inr trivial) ?_ rfl
    refine ⟨hkf, hLEN, .inr ⟨w.heap.size, 0, _, _, by rw [upd_same, List.length_append], heap_alloc_new w.drew _, by rw [List.length_append]; exact hge, hcm, ?_, fun t ps ht j p hj => ?_, fun _ _ => Iff.rfl⟩⟩
    · simp only [Array.size_append, List.size_toArray, size_zeroCells, hzs, hold.1, hnews.1, ← Nat.add_mul, Nat.zero_add]
      exact Nat.mul_le_mul_right _ (by omega)
    · have hall := hold.append hnews
      obtain ⟨cc, hc, hp⟩ := (hall.2 t ps ht).2 j p hj
      have hlt : t * i.size + j < (olds ++ news).length := by rcases Nat.lt_or_ge (t * i.size + j) (olds ++ news).length with h | h; exact h; simp [List.getElem?_eq_none h] at hc
      refine ⟨cc, ?_, p.mono hp (hk1.ext fun _ _ h => h.elim) ?_⟩
      · rw [Nat.zero_add, ← Array.getElem?_toList]
        simp only [Array.toList_append]
        rw [List.getElem?_append_left hlt]; exact hc
      · rintro b q hb' (hm | ⟨m, hm⟩)
        · exact .inl hm
        · by_cases e : m = n'
          · subst e; rw [upd_same] at hm; have hm : b = w.heap.size := hm; omega
          · rw [upd_other _ _ e] at hm
            by_cases e2 : m = n
            · subst e2; rw [upd_same] at hm; exact hm.elim
            · rw [upd_other _ _ e2] at hm; exact .inr ⟨m, hm⟩
  unfold Oper.wp
  rcases hs with ⟨rfl, hι, hF0⟩ | ⟨b, q, cap, cur, hι, hheap, hcap, hcm, hsz, hcells, hFF⟩
  · by_cases hm : fls = []
    · subst hm
      have hrun := run_app_in (P := P) (ty := o.type) (T := T) (w := w) (w1 := w) hu hi (base := none) (n := 0) (c := 0) (m := 0) (xa := xa) (xc := xc) (news := news) (by have := hnf w fun _ _ h => h; rw [hxe] at this; exact this) (by omega) (fun a e => by cases e) fun _ => rfl
      rw [hexec _ _ (by rw [hι, hxe]; exact hrun), Oper.upon_value, hd]
      refine fin _ _ (fun _ _ => False) (Kept.refl _ _) (fun _ _ h => h.elim) (fun _ _ _ => .inr trivial) ⟨hkf, hLEN, .inl ⟨rfl, by rw [upd_same], fun _ _ => id⟩⟩ rfl
    · have hpos : 0 < fls.length := List.length_pos_iff.2 hm
      have hrun := run_app_new (P := P) (ty := o.type) (w := w) hu hi hz (base := none) (n := 0) (c := 0) (m := fls.length) (xa := xa) (xc := xc) (olds := []) (news := news) (by have := hnf w.drew fun _ _ h => h; rw [hxe] at this; exact this) rfl (by omega) (by simp only [List.length_nil] at hbnd; omega)
        (growslice_fits (by omega) (by simpa using hfit))
      rw [hexec _ _ (by rw [hι, hxe]; exact hrun), Oper.upon_value, hd]
      exact new none 0 [] hι ⟨by simp, fun i ps hi => by simp at hi⟩ rfl (by simp only [List.length_nil]; omega)
  · obtain ⟨oa, oc, olds, hoe, hold, hof⟩ := news_first (P := P) (news_row hon (k := i.size) (els := els) ⟨rfl, rfl⟩)
    rw [hι] at hoe; injection hoe with e1 _ e3; subst e1; subst e3
    by_cases hroom : els.length + fls.length ≤ cap
    · have hmul : (els.length + fls.length) * i.size ≤ cap * i.size := Nat.mul_le_mul_right _ hroom
      rw [Nat.add_mul] at hmul
      have hst := run_storeCells_at P b (q + els.length * i.size) E news 0 cur w hheap (by rw [hnews.1]; omega) hn1
      simp only [Nat.add_zero] at hst
      generalize hnewd : (cur.toList.take (q + els.length * i.size) ++ news ++ cur.toList.drop (q + els.length * i.size + news.length)).toArray = nw at hst
      have hrun := run_app_in (P := P) (ty := o.type) (T := T) (w := w) (w1 := w.setRow b nw) hu hi (base := some ⟨b, q, none⟩) (n := els.length) (c := cap) (m := fls.length) (xa := xa) (xc := xc) (news := news) (by have := hnf w fun _ _ h => h; rw [hxe] at this; exact this) hroom
        (fun a e => by injection e with e; subst e; rw [add_add]; exact hst) (fun e => by cases e)
      rw [hexec _ _ (by rw [hι, hxe]; exact hrun), Oper.upon_value, hd]
      have hkF : Kept (fun b q => F n b q) w (w.setRow b nw) := (kept_setRow (new := nw) hheap).mono fun b' q' e => (hFF b' q').2 e
      have hnsz : nw.size = cur.size := by rw [← hnewd]; simp only [List.size_toArray, List.length_append, List.length_take, List.length_drop, Array.length_toList]; have := hnews.1; omega
      refine fin _ _ (fun b' _ => b' = b) hkF (fun b' q' e => by
          have e : b' = b := e
          subst e; exact ⟨.inl ((hFF b' q').2 rfl), by simp; exact lt_of_heap hheap⟩) (fun _ _ _ => .inr trivial) ?_ rfl
      refine ⟨hkf, hLEN, .inr ⟨b, q, cap, nw, by rw [upd_same, List.length_append], setRow_heap w b cur _ E (0, 0) hheap, by rw [List.length_append]; exact hroom, hcm, by rw [hnsz]; exact hsz, fun t ps ht j p hj => ?_, fun _ _ => Iff.rfl⟩⟩
      have hE : Ext (Mof X.M0 F) w (w.setRow b nw) := hkF.ext fun b q hf => Mof_F hf
      have hMM : ∀ b' q', b' < w.heap.size → Mof X.M0 (upd (upd F n fun _ _ => False) n' fun b' _ => b' = b) b' q' → Mof X.M0 F b' q' := by
        rintro b' q' _ (hm | ⟨m, hm⟩)
        · exact .inl hm
        · by_cases e : m = n'
          · subst e; rw [upd_same] at hm; exact .inr ⟨n, (hFF b' q').2 hm⟩
          · rw [upd_other _ _ e] at hm
            by_cases e2 : m = n
            · subst e2; rw [upd_same] at hm; exact hm.elim
            · rw [upd_other _ _ e2] at hm; exact .inr ⟨m, hm⟩
      have htk : (cur.toList.take (q + els.length * i.size)).length = q + els.length * i.size := by simp; omega
      rcases Nat.lt_or_ge t els.length with e | e
      · rw [List.getElem?_append_left e] at ht
        obtain ⟨cc, hc, hp⟩ := hcells t ps ht j p hj
        have hjk : j < i.size := by
          rw [← hk ps (List.mem_of_getElem? ht)]
          rcases Nat.lt_or_ge j ps.length with h | h; exact h; simp [List.getElem?_eq_none h] at hj
        have : (t + 1) * i.size ≤ els.length * i.size := Nat.mul_le_mul_right _ e
        rw [Nat.succ_mul] at this
        refine ⟨cc, ?_, p.mono hp hE hMM⟩
        rw [← hnewd, List.getElem?_toArray, List.append_assoc, List.getElem?_append_left (by omega), List.getElem?_take, if_pos (by omega), Array.getElem?_toList]
        exact hc
      · rw [List.getElem?_append_right e] at ht
        obtain ⟨cc, hc, hp⟩ := (hnews.2 _ ps ht).2 j p hj
        have hlt : (t - els.length) * i.size + j < news.length := by rcases Nat.lt_or_ge ((t - els.length) * i.size + j) news.length with h | h; exact h; simp [List.getElem?_eq_none h] at hc
        have e2 : t * i.size = (t - els.length) * i.size + els.length * i.size := by rw [← Nat.add_mul]; congr 1; omega
        refine ⟨cc, ?_, p.mono hp hE hMM⟩
        rw [← hnewd, List.getElem?_toArray, List.append_assoc, List.getElem?_append_right (by omega), htk, List.getElem?_append_left (by omega), ← hc]
        congr 1; omega
    · have hrun := run_app_new (P := P) (ty := o.type) (w := w) hu hi hz (base := some ⟨b, q, none⟩) (n := els.length) (c := cap) (m := fls.length) (xa := xa) (xc := xc) (olds := olds) (news := news) (by have := hnf w.drew fun _ _ h => h; rw [hxe] at this; exact this) (by have := hof w.drew fun _ _ h => h; rw [hι] at this; exact this) (by omega) (by omega)
        (growslice_fits (by omega) hfit)
      rw [hexec _ _ (by rw [hι, hxe]; exact hrun), Oper.upon_value, hd]
      exact new _ cap olds hι hold (by have := hof w.drew fun _ _ h => h; rw [hι] at this; exact this) (by omega)

theorem step_append (n' : Nat) {T E : TypeId} {i : TypeInfo} {z : Value} {x y : Operand} {n : Nat} {els fls : List (List Pred)} {r : List (List Pred)} (hu : P.underlying T = some (.slice E)) (hi : P.info? E = some i) (hz : i.zero = some z) (hzs : z.cells.size = i.size) (h0 : 0 < i.size) (hby : 0 < i.bytes)
    (ho : o.op = .call { callee := .builtin .append, args := #[x, y], argTypes := #[T, T] }) (hd : o.dst = some d) (hN : d < X.N) (hx : σ.opd x = some (.val (.one (.ref n 0)))) (hb : look n σ.ob = some (.row E i.size els))
    (hy : ∀ ι F a w, RI X ι F σ a w → News w (Mof X.M0 F) i.size fls (a.eval y)) (hfit : (els.length + fls.length) * i.bytes ≤ 140737488355328) (hn : σ.fresh n' = true) (hr : els ++ fls = r) :
    StepS P X o σ ((⟨σ.sl, (n', .row E i.size r) :: σ.ob.filter fun x => !(x.1.beq n)⟩ : St).put d (.val (.one (.ref n' 0)))) := fun a w ⟨ι, F, h⟩ =>
  append_core n' hu hi hz hzs h0 hby ho hd hN hb hfit hn hr h (((h.opd hx).1).trans (vadd0 _)) (hy ι F a w h)

theorem fresh_new {n m : Nat} {x : Ob} (h : σ.fresh m = true) (hx : x.fresh m = true) (hnm : n ≠ m) : (σ.new n x).fresh m = true := by
  simp only [St.fresh, St.new, Bool.and_eq_true, List.all_cons] at h ⊢
  exact ⟨h.1, ⟨hx, by cases hb : n.beq m with | false => rfl | true => exact absurd (Nat.eq_of_beq_eq_true hb) hnm⟩, h.2⟩
/-- append onto nil. -/
theorem step_append_nil (n n' : Nat) {T E : TypeId} {i : TypeInfo} {z : Value} {x y : Operand} {fls : List (List Pred)} (hu : P.underlying T = some (.slice E)) (hi : P.info? E = some i) (hz : i.zero = some z) (hzs : z.cells.size = i.size) (h0 : 0 < i.size) (hby : 0 < i.bytes)
    (ho : o.op = .call { callee := .builtin .append, args := #[x, y], argTypes := #[T, T] }) (hd : o.dst = some d) (hN : d < X.N) (hx : σ.opd x = some (D (eqP (.slice none 0 0) rfl)))
    (hy : ∀ ι F a w, RI X ι F σ a w → News w (Mof X.M0 F) i.size fls (a.eval y)) (hfit : fls.length * i.bytes ≤ 140737488355328) (hn : σ.fresh n = true) (hn' : σ.fresh n' = true) (hnn : n ≠ n') :
    StepS P X o σ ((⟨σ.sl, (n', .row E i.size fls) :: σ.ob⟩ : St).put d (.val (.one (.ref n' 0)))) := by
  intro a w ⟨ι, F, h⟩
  have he : a.eval x = .slice none 0 0 := (h.opd hx).1
  have h2 : RI X (upd ι n (.slice none 0 0)) (upd F n fun _ _ => False) (σ.new n (.row E i.size [])) a w :=
    h.new hn (Kept.refl _ _) (fun _ _ h => h.elim) ⟨fun ps h => by simp at h, by simp, .inl ⟨rfl, upd_same _ _ _, fun _ _ => id⟩⟩
  have hnews : News w (Mof X.M0 (upd F n fun _ _ => False)) i.size fls (a.eval y) := by
    obtain ⟨ad, cap, vs, e1, e2, e3⟩ := hy ι F a w h
    refine ⟨ad, cap, vs, e1, e2.mono (Ext.refl _ w) fun b q _ hm => ?_, e3⟩
    rcases hm with hm | ⟨m, hm⟩
    · exact .inl hm
    · by_cases e : m = n
      · subst e; rw [upd_same] at hm; exact hm.elim
      · rw [upd_other _ _ e] at hm; exact .inr ⟨m, hm⟩
  have hfr : (σ.new n (.row E i.size [])).fresh n' = true := fresh_new hn' rfl hnn
  have := append_core (P := P) (o := o) (d := d) (y := y) n' hu hi hz hzs h0 hby ho hd hN (n := n) (els := []) (by show look n ((n, Ob.row E i.size []) :: σ.ob) = _; rw [look_cons, if_pos rfl]) (by simpa using hfit) hfr (List.nil_append fls) h2 (by rw [he, upd_same]) hnews
  refine Oper.wp_mono (o := o) (fun a' w' h3 => ?_) this
  refine R.weak' h3 (fun t v hv => ⟨v, hv, AV.le_refl _⟩) (fun m => ?_)
  have hno : look n σ.ob = none := by
    simp only [St.fresh, Bool.and_eq_true, List.all_eq_true] at hn
    cases hl : look n σ.ob with
    | none => rfl
    | some y => have := (hn.2 _ (look_mem hl)).2; simp at this
  show look m ((n', Ob.row E i.size fls) :: σ.ob) = look m ((n', Ob.row E i.size fls) :: (((n, Ob.row E i.size []) :: σ.ob).filter fun x => !(x.1.beq n)))
  rw [List.filter_cons_of_neg (by simp)]
  rw [List.filter_eq_self.2 fun p hp => ?_]
  simp only [St.fresh, Bool.and_eq_true, List.all_eq_true] at hn
  exact (hn.2 p hp).2

end
end -- nc
end Go.Proofs.YtgjbehfdjnekdaaGreatDoor.Aw
end
