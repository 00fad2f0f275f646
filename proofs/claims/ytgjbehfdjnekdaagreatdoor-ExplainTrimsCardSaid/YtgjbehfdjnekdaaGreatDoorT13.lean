/- Parts of the proof of one statement: Sy4, Aw12, Sy5. -/
import Derived.Test.YtgjbehfdjnekdaaGreatDoorT07
import Derived.Test.YtgjbehfdjnekdaaGreatDoorT12
set_option linter.all false
section
/- Symbolic states: operations that give a value are right, second part. -/
set_option linter.unusedVariables false
set_option linter.unusedSimpArgs false
namespace Go.Proofs.YtgjbehfdjnekdaaGreatDoor.Sy
open Go.RowKit
open Go.Proofs.YtgjbehfdjnekdaaGreatDoor.Aw
open Go.Proofs.YtgjbehfdjnekdaaGreatDoor.Xc (Tab TabOK XT TyOK Xv Xp toList_ba placesX run_places)
noncomputable section
section
variable {P : Program} {X : Ctx} {T : Tab} {σ : SS} {τ : St} {o : Oper} {d : Nat}

theorem step_lenS (hT : TabOK P T) (hs : SubS σ τ) {t : TypeId} {x : Operand} {i : XT} {c : Sc} {n : Int} (hi : T.ty t = some i) (hx : one σ.sl x = some c) (h : lenS σ i.desc c = some n)
    (ho : o.op = .call ⟨.builtin .len, #[x], #[t]⟩) (hd : o.dst = some d) (hN : d < X.N) : StepS P X o τ (τ.put d (D (intP .i64 n))) := by
  have hx' := opd1 hs hx
  have hu := (hT.ty _ _ hi).und
  unfold lenS at h
  split at h
  · rename_i s hd'
    rw [hd'] at hu; injection h with h; subst h
    have := step_len_str (s := ⟨s.toArray⟩) hu ho hd hN hx'
    rw [ba_size] at this; exact this
  · rename_i e hd'
    rw [hd'] at hu; injection h with h; subst h
    refine step_val hd hN fun ι F a w hR => ?_
    have he : a.eval x = .slice none 0 0 := (hR.opd hx').1
    exact ⟨.int .i64 0, by unfold execOp; simp [ho, resolve, invoke, builtin, Builtin.len_, run_underlying hu, he, goInt], rfl, rfl⟩
  · rename_i e k m f hd'
    rw [hd'] at hu; injection h with h; subst h
    exact step_len hu ho hd hN hx' (els_length m f)
  · rename_i e n' hd'
    rw [hd'] at hu
    split at h
    · rename_i T' k m f hl
      injection h with h; subst h
      exact step_len_row hu ho hd hN hx' (hs.ob _ _ hl) ⟨rfl, rfl⟩ (els_length m f)
    · cases h
  · cases h

theorem partsS_ok (hs : SubS σ τ) : ∀ {xs : List Operand} {ps : List Sp}, partsS σ.sl xs = some ps → τ.parts xs = some (ps.map Sp.den)
  | [], ps, h => by simp only [partsS, Option.some.injEq] at h; subst h; rfl
  | x :: xs, ps, h => by
    simp only [partsS] at h
    split at h
    · rename_i p qs h1 h2
      injection h with h; subst h
      have := partsS_ok hs h2
      simp only [St.parts, opd_den hs h1, this, Sv.den, List.map_cons]
    · cases h
theorem fpartsS_ok (hs : SubS σ τ) : ∀ {xs : List (Nat × Operand)} {ps : List (Nat × Sp)}, fpartsS σ.sl xs = some ps → τ.fparts xs = some (ps.map fun x => (x.1, x.2.den))
  | [], ps, h => by simp only [fpartsS, Option.some.injEq] at h; subst h; rfl
  | (i, x) :: xs, ps, h => by
    simp only [fpartsS] at h
    split at h
    · rename_i p qs h1 h2
      injection h with h; subst h
      have := fpartsS_ok hs h2
      simp only [St.fparts, opd_den hs h1, this, Sv.den, List.map_cons]
    · cases h
theorem cells_den (p : Sp) : p.den.cells = p.cells.map Sc.den := by cases p <;> rfl
theorem setS_den (cs : List Sc) (off : Nat) (new : List Sc) : (setS cs off new).map Sc.den = setCells (cs.map Sc.den) off (new.map Sc.den) := by
  simp only [setS, setCells, List.map_append, List.map_take, List.map_drop, List.length_map]
theorem fillS_ok {place : Nat → Option (Nat × Nat)} : ∀ {ps : List (Nat × Sp)} {cs r : List Sc}, fillS place cs ps = some r → fillC place (cs.map Sc.den) (ps.map fun x => (x.1, x.2.den)) = some (r.map Sc.den)
  | [], cs, r, h => by simp only [fillS, Option.some.injEq] at h; subst h; rfl
  | (i, p) :: ps, cs, r, h => by
    simp only [fillS] at h
    split at h
    · rename_i off size hpl
      cases hb : p.cells.length.beq size && (off + size).ble cs.length with
      | false => rw [hb, cond_false] at h; cases h
      | true =>
        rw [hb, cond_true] at h
        rw [Bool.and_eq_true] at hb
        have h1 := Nat.eq_of_beq_eq_true hb.1
        have h2 := Nat.le_of_ble_eq_true hb.2
        have := fillS_ok h
        rw [setS_den] at this
        simp only [fillC, List.map_cons, hpl, cells_den, List.length_map]
        rw [if_pos ⟨h1, h2⟩]; exact this
    · cases h
theorem zeroS_ok {ι : Nat → Value} {w : World} {M : Cells} : ∀ {xs : List Xv} {cs : List Sc} {vs : List Value}, zeroS xs = some cs → Xc.cellsRel E0' U0' xs vs → cellsRel ι w M (cs.map Sc.den) vs
  | [], cs, vs, h, hr => by simp only [zeroS, Option.some.injEq] at h; subst h; exact ⟨by simpa using hr.1, fun i c v hc => by simp at hc⟩
  | x :: xs, cs, [], h, hr => by have := hr.1; simp at this
  | x :: xs, cs, v :: vs, h, hr => by
    simp only [zeroS] at h
    split at h
    · rename_i c cs' h1 h2
      injection h with h; subst h
      have ih := zeroS_ok (ι := ι) (w := w) (M := M) (vs := vs) h2 ⟨by simpa using hr.1, fun i c v hc hv => hr.2 (i + 1) c v (by simpa using hc) (by simpa using hv)⟩
      refine ⟨by simpa using ih.1, fun i c' u hc hu => ?_⟩
      cases i with
      | zero => simp only [List.map_cons, List.getElem?_cons_zero, Option.some.injEq] at hc hu; subst hc; subst hu; exact ofX_rel E0' U0' h1 (hr.2 0 x v rfl rfl)
      | succ i => exact ih.2 i c' u (by simpa using hc) (by simpa using hu)
    · cases h

theorem step_buildS (hT : TabOK P T) (hs : SubS σ τ) {t : TypeId} {parts : Array (Nat × Operand)} {cs : List Sc} (h : buildS T σ.sl t parts.toList = some cs) (ho : o.op = .build t parts) (hd : o.dst = some d) (hN : d < X.N) : StepS P X o τ (τ.put d (.val (.agg (cs.map Sc.den)))) := by
  unfold buildS at h
  split at h
  · rename_i i ps hi hps
    have hu := (hT.ty _ _ hi).und
    obtain ⟨z, hz, hzc, _⟩ := (hT.ty _ _ hi).zero
    have hzr := Xc.zerosA_rel E0' U0' hzc
    split at h
    · rename_i zc fs hzs hfs
      split at h
      · rename_i l hl
        rw [hfs] at hu
        refine step_val hd hN fun ι F a w hR => ?_
        obtain ⟨h1, h2⟩ := hR.fparts (fpartsS_ok hs hps)
        have hf : fillC (fun j => l.toArray[j]?) (zc.map Sc.den) (ps.map fun x => (x.1, x.2.den)) = some (cs.map Sc.den) := by have := fillS_ok h; simpa using this
        obtain ⟨us, h3, h4⟩ := fill_rel (zeroS_ok (ι := ι) (w := w) (M := Mof X.M0 F) hzs hzr) h1 h2 hf
        have hm : ∀ w, (fs.mapM fun f => do pure (f.offset, ← sizeOf f.type) : Sem (Array (Nat × Nat))).run P w = .ok l.toArray w := fun w => by
          rw [← Array.toArray_toList (xs := fs), List.mapM_toArray]
          simp only [Sem.run_map, Xc.run_places (P := P) hT hl, Result.andThen_ok]
        have hpl : (parts.map fun x => (x.1, a.eval x.2)).toList = parts.toList.map fun x => (x.1, a.eval x.2) := Array.toList_map
        refine ⟨.agg us, ?_, us, rfl, h4⟩
        unfold execOp
        simp only [ho, Instr.build, Sem.run_bind, hz, Result.andThen_ok, run_underlying hu, hm, hpl, h3, Sem.run_pure]
      · cases h
    · rename_i zc n e hzs hd'
      split at h
      · rename_i j hj
        rw [hd'] at hu
        refine step_val hd hN fun ι F a w hR => ?_
        obtain ⟨h1, h2⟩ := hR.fparts (fpartsS_ok hs hps)
        obtain ⟨us, h3, h4⟩ := fill_rel (zeroS_ok (ι := ι) (w := w) (M := Mof X.M0 F) hzs hzr) h1 h2 (fillS_ok h)
        have hpl : (parts.map fun x => (x.1, a.eval x.2)).toList = parts.toList.map fun x => (x.1, a.eval x.2) := Array.toList_map
        refine ⟨.agg us, ?_, us, rfl, h4⟩
        unfold execOp
        simp only [ho, Instr.build, Sem.run_bind, hz, Result.andThen_ok, run_underlying hu, (hT.ty _ _ hj).size, hpl, h3, Sem.run_pure]
      · cases h
    · cases h
  · cases h

theorem refsS_ok : ∀ {ps : List Sp} {ns : List Nat}, refsS ps = some ns → ps.map Sp.den = ns.map fun n => .one (.ref n 0)
  | [], ns, h => by simp only [refsS, Option.some.injEq] at h; subst h; rfl
  | p :: ps, ns, h => by
    unfold refsS at h
    split at h
    · rename_i heq; cases heq
    · rename_i n l heq
      injection heq with e1 e2; subst e1; subst e2
      split at h
      · rename_i ns' hns
        injection h with h; subst h
        simp only [List.map_cons, refsS_ok hns]; rfl
      · cases h
    · cases h

theorem step_pickS (hs : SubS σ τ) {c x y : Operand} {b : Bool} {u v r : Sv} {p : Option Prop} (hc : one σ.sl c = some (.bool b)) (hx : opd σ.sl x = some u) (hy : opd σ.sl y = some v) (h : pickS b u v = some (p, r)) (hp : Holds p) (ho : o.op = .pick c x y) (hd : o.dst = some d) (hN : d < X.N) :
    StepS P X o τ (τ.put d r.den) := by
  have hc' := opd1 hs hc
  have hx' := opd_den hs hx
  have hy' := opd_den hs hy
  unfold pickS at h
  split at h
  · injection h with h; injection h with h1 h2; subst h1; subst h2
    exact step_and ho hd hN hc' hx' hp hy'
  · injection h with h; injection h with h1 h2; subst h1; subst h2
    exact step_or ho hd hN hc' hy' hp hx'
  · cases h

theorem valS_ok (hT : TabOK P T) (hs : SubS σ τ) {p : Option Prop} {v : Sv} (h : valS T σ o.op = some (p, v)) (hp : Holds p) (hd : o.dst = some d) (hN : d < X.N) : StepS P X o τ (τ.put d v.den) := by
  unfold valS at h
  split at h
  · rename_i x ho
    split at h
    · rename_i u hx; injection h with h; injection h with h1 h2; subst h2; exact step_move ho hd hN (opd_den hs hx)
    · cases h
  · rename_i x ho
    split at h
    · rename_i u hx; injection h with h; injection h with h1 h2; subst h2; exact step_assign ho hd hN (opd_den hs hx)
    · cases h
  · rename_i c x y ho
    split at h
    · rename_i b u u' hc hx hy; exact step_pickS hs hc hx hy h hp ho hd hN
    · cases h
  · rename_i op t x y t' ho
    split at h
    · rename_i p1 q1 hx hy
      split at h
      · rename_i ob c hb
        injection h with h; injection h with h1 h2; subst h1; subst h2
        refine step_val hd hN fun ι F a w hR => ?_
        obtain ⟨z, hz, hr⟩ := run_binS (x := x) (y := y) (w := w) hT hb hp (hR.opd (opd_den hs hx)) (hR.opd (opd_den hs hy))
        refine ⟨z, ?_, hr⟩
        unfold execOp
        simp only [ho]
        have := hz
        simp only [Sem.run_bind] at this ⊢
        cases hg : (eqGuard op t x y (a.eval x) (a.eval y)).run P w with
        | ok u w1 => rw [hg] at this; simp only [Result.andThen_ok] at this ⊢; rw [this]; rfl
        | _ => rw [hg] at this; simp [Result.andThen] at this
      · cases h
    · cases h
  · rename_i op t x ho
    split at h
    · rename_i c hx
      split at h
      · rename_i c' hu
        injection h with h; injection h with h1 h2; subst h2
        unfold unS at hu
        split at hu
        · injection hu with hu; subst hu; exact step_not ho hd hN (opd1 hs hx)
        · injection hu with hu; subst hu; exact step_neg ho hd hN (opd1 hs hx) rfl
        · cases hu
      · cases h
    · cases h
  · rename_i s t x ho
    split at h
    · rename_i i j c hi hj hx
      split at h
      · rename_i c' hc
        injection h with h; injection h with h1 h2; subst h2
        have hu1 := (hT.ty _ _ hi).und
        have hu2 := (hT.ty _ _ hj).und
        unfold convS at hc
        split at hc
        · rename_i hj'; injection hc with hc; subst hc; rw [hj'] at hu2; exact step_conv hu1 hu2 ho hd hN (opd1 hs hx) rfl
        · rename_i hi' hj'; injection hc with hc; subst hc; rw [hi'] at hu1; rw [hj'] at hu2; exact step_convstr (ds := .string) hu1 hu2 ho hd hN (opd1 hs hx)
        · cases hc
      · cases h
    · cases h
  · rename_i x i ho
    split at h
    · rename_i l hx
      split at h
      · rename_i q hq
        injection h with h; injection h with h1 h2; subst h2
        exact step_extract ho hd hN (opd_den hs hx) (by rw [List.getElem?_map, hq]; rfl)
      · cases h
    · cases h
  · rename_i t x i ho
    split at h
    · rename_i j cs hj hx
      split at h
      · rename_i fs hfs
        split at h
        · rename_i f hf
          split at h
          · rename_i k hk
            obtain ⟨r, hr, rfl⟩ := okV_some h
            have hu := (hT.ty _ _ hj).und
            rw [hfs] at hu
            have hA := (hT.ty _ _ hk).agg; have hS := (hT.ty _ _ hk).size
            cases ha : k.agg with
            | true =>
              rw [ha] at hr hA
              obtain ⟨hle, rfl⟩ := partS_agg hr
              exact step_field_agg hu hf hA hS ho hd hN (opd_den hs hx) (by rw [← List.map_drop, ← List.map_take])
            | false =>
              rw [ha] at hr hA
              obtain ⟨c', hc, rfl⟩ := partS_one hr
              exact step_field (k := 0) hu hf hA ho hd hN (opd_den hs hx) (by rw [List.getElem?_map, hc]; rfl)
          · cases h
        · cases h
      · cases h
    · cases h
  · rename_i t x y ho
    split at h
    · rename_i i q k n hi hx hy; exact step_indexS hT hs hi hx hy h hp ho hd hN
    · cases h
  · rename_i t x lo hi ho
    split at h
    · rename_i i c hi' hx
      split at h
      · rename_i ob c' hsl
        injection h with h; injection h with h1 h2; subst h1; subst h2
        exact step_sliceS hT hs hi' hx hsl hp ho hd hN
      · cases h
    · cases h
  · rename_i t x ho
    split at h
    · rename_i c hx; exact step_loadS hT hs hx h hp ho hd hN
    · cases h
  · rename_i t x i ho
    split at h
    · rename_i j c hj hx
      split at h
      · rename_i fs hfs
        split at h
        · rename_i f hf
          split at h
          · rename_i k hk
            cases hz : k.size.beq 0 with
            | true => rw [hz, cond_true] at h; cases h
            | false =>
              rw [hz, cond_false] at h
              split at h
              · rename_i c' hc
                injection h with h; injection h with h1 h2; subst h2
                exact step_fieldAddrS hT hs hj hx hfs hf hk hz hc ho hd hN
              · cases h
          · cases h
        · cases h
      · cases h
    · cases h
  · rename_i t x y ho
    split at h
    · rename_i i c k n hi hx hy
      split at h
      · rename_i ob c' hc
        injection h with h; injection h with h1 h2; subst h1; subst h2
        exact step_indexAddrS hT hs hi hx hy hc hp ho hd hN
      · cases h
    · cases h
  · rename_i t parts ho
    split at h
    · rename_i cs hb
      injection h with h; injection h with h1 h2; subst h2
      exact step_buildS hT hs hb ho hd hN
    · cases h
  · rename_i f first caps ho
    cases hf : first.isEmpty with
    | false => rw [hf, cond_false] at h; cases h
    | true =>
      rw [hf, cond_true] at h
      have : first = #[] := by simpa using hf
      subst this
      split at h
      · rename_i ps hps
        split at h
        · rename_i ns hns
          injection h with h; injection h with h1 h2; subst h2
          have := step_func (P := P) (X := X) (d := d) (caps := ns.map .nm) ho hd hN (by rw [partsS_ok hs hps, refsS_ok hns]) rfl
          have e : Sv.den (.val (.one (.clo f (ns.map fun n => .ref n 0)))) = .val (.one (.clo f (ns.map .nm))) := by
            show AV.val (.one (.clo f _)) = _
            rw [List.map_map]; rfl
          rw [e]; exact this
        · cases h
      · cases h
  · rename_i b xs ts ho
    split at h
    · rename_i c hc
      injection h with h; injection h with h1 h2; subst h2
      unfold callS at hc
      split at hc
      · rename_i x t hxs hts
        have hxs : xs = #[x] := by rw [← Array.toArray_toList (xs := xs), hxs]
        have hts : ts = #[t] := by rw [← Array.toArray_toList (xs := ts), hts]
        subst hxs; subst hts
        split at hc
        · rename_i i c' hi hx
          split at hc
          · rename_i n hn
            injection hc with hc; subst hc
            exact step_lenS hT hs hi hx hn ho hd hN
          · cases hc
        · cases hc
      · rename_i x y hxs
        have hxs : xs = #[x, y] := by rw [← Array.toArray_toList (xs := xs), hxs]
        subst hxs
        split at hc
        · rename_i k m j n hm hn
          injection hc with hc; subst hc
          refine step_val hd hN fun ι F a w hR => ?_
          have h1 : a.eval x = .int k m := (hR.opd (opd1 hs hm)).1
          have h2 : a.eval y = .int j n := (hR.opd (opd1 hs hn)).1
          exact ⟨_, by unfold execOp; simp [ho, resolve, invoke, builtin, Builtin.max_, h1, h2, Builtin.max2], rfl, rfl⟩
        · cases hc
      · rename_i x y hxs
        have hxs : xs = #[x, y] := by rw [← Array.toArray_toList (xs := xs), hxs]
        subst hxs
        split at hc
        · rename_i k m j n hm hn
          injection hc with hc; subst hc
          refine step_val hd hN fun ι F a w hR => ?_
          have h1 : a.eval x = .int k m := (hR.opd (opd1 hs hm)).1
          have h2 : a.eval y = .int j n := (hR.opd (opd1 hs hn)).1
          exact ⟨_, by unfold execOp; simp [ho, resolve, invoke, builtin, Builtin.min_, h1, h2, Builtin.min2], rfl, rfl⟩
        · cases hc
      · cases hc
    · cases h
  · cases h
end
end -- nc
end Go.Proofs.YtgjbehfdjnekdaaGreatDoor.Sy
end
section
/- The framework's make. -/
set_option linter.unusedVariables false
set_option linter.unusedSimpArgs false
namespace Go.Proofs.YtgjbehfdjnekdaaGreatDoor.Aw
noncomputable section
open Go.RowKit
section
variable {P : Program} {Q : Exit → Act → World → Prop} {X : Ctx} {K : List Item} {σ σ' : St} {o : Oper} {d : Nat}

/-- make([]T, len, cap) -/
theorem step_make (n : Nat) {T E : TypeId} {inf : TypeInfo} {z : Value} {x y : Operand} {kx ky : IntKind} {k ln cn : Nat} {zp : List Pred} (hu : P.underlying T = some (.slice E)) (hS : ∀ w, (sizeOf E).run P w = .ok k w) (hi : P.info? E = some inf) (hz : inf.zero = some z) (his : inf.size = k)
    (hzs : z.cells.size = k) (h0 : 0 < k) (hby : 0 < inf.bytes) (hzl : zp.length = k) (hzp : ∀ (j : Nat) (p : Pred), zp[j]? = some p → ∃ c, z.cells[j]? = some c ∧ ∀ w M, p.p w M c)
    (ho : o.op = .makeSlice T x y) (hd : o.dst = some d) (hN : d < X.N) (hx : σ.opd x = some (D (intP kx ln))) (hy : σ.opd y = some (D (intP ky cn))) (hlc : ln ≤ cn) (hfit : cn * inf.bytes ≤ 140737488355328) (hn : σ.fresh n = true) :
    StepS P X o σ ((σ.new n (.row E k (List.replicate ln zp))).put d (.val (.one (.ref n 0)))) := by
  intro a w ⟨ι, F, h⟩
  have h1 : a.eval x = .int kx ln := (h.opd hx).1
  have h2 : a.eval y = .int ky cn := (h.opd hy).1
  have hcn : cn ≤ 140737488355328 := Nat.le_trans (Nat.le_mul_of_pos_right _ hby) hfit
  have hwl : IntKind.i64.wrap (ln : Int) = ln := by rw [IntKind.wrap_i64]; omega
  have hwc : IntKind.i64.wrap (cn : Int) = cn := by rw [IntKind.wrap_i64]; omega
  generalize hcur : ((Array.range (cn * z.cells.size)).map fun i => z.cells[i % z.cells.size]!) = cur
  have hsz : cur.size = cn * k := by rw [← hcur]; simp [hzs]
  have hrun : (execOp a.eval o).run P w = .ok (.value (.slice (some ⟨w.heap.size, 0, none⟩) ln cn)) (w.alloc (.cells cur E)) := by
    unfold execOp
    have hl1 : ¬ ((ln : Int) < 0) := by omega
    have hl2 : ¬ ((ln : Int) > (cn : Int)) := by omega
    have hc1 : ¬ ((cn : Int) < 0) := by omega
    have hc2 : ¬ ((inf.bytes : Int) * (cn : Int) > 2 ^ 48) := by rw [← Int.natCast_mul, Nat.mul_comm]; omega
    have hroom : ¬ (cn * inf.bytes > roomBytes) := by
      have : roomBytes = 140737488355328 := rfl
      omega
    simp only [ho, h1, h2, Instr.makeSlice, Sem.run_bind, run_underlying hu, Result.andThen_ok, asInt, asIntOf, Sem.run_pure, typeInfo, run_program, hi, hwl, hwc, hl1, hl2, hc1, hc2, decide_false, Bool.or_false, Bool.false_eq_true, if_false, Int.toNat_natCast, askRoom, if_neg hroom]
    simp only [hS, Result.andThen_ok]
    by_cases e : cn * k = 0
    · have h00 : ∀ (m : Nat) (f : Nat → Value), m = 0 → (Array.range m).map f = #[] := fun m f hm => Array.eq_empty_of_size_eq_zero (by simp [hm])
      rw [← hcur]
      rw [if_pos e, h00 _ _ (by rw [hzs]; exact e)]
      simp only [Sem.run_bind, Sem.run_pure, Result.andThen_ok, h00 _ _ e, newRow, run_newObj]
      rfl
    · rw [if_neg e]
      have hzv : ∀ w, (zeroValue E).run P w = .ok z w := fun w => by simp [zeroValue, typeInfo, hi, hz]
      simp only [hzv, Sem.run_bind, Sem.run_pure, Result.andThen_ok, newRow, run_newObj]
      rw [← hcur, hzs]
      rfl
  unfold Oper.wp
  rw [hrun, Oper.upon_value, hd]
  have hrel : Ob.rel (upd ι n (.slice (some ⟨w.heap.size, 0, none⟩) ln cn)) (w.alloc (.cells cur E)) (Mof X.M0 (upd F n fun b _ => b = w.heap.size)) n (fun b _ => b = w.heap.size) (.row E k (List.replicate ln zp)) := by
    refine ⟨fun ps hps => by rw [List.eq_of_mem_replicate hps]; exact hzl, by rw [List.length_replicate]; exact Nat.le_trans hlc hcn, .inr ⟨w.heap.size, 0, cn, cur, by rw [upd_same, List.length_replicate], heap_alloc_new w _, by rw [List.length_replicate]; exact hlc, by show cn ≤ maxLen; simp only [maxLen]; omega, by rw [hsz]; omega, fun i ps hi' j p hj => ?_, fun b' q => Iff.rfl⟩⟩
    rw [List.getElem?_replicate] at hi'
    split at hi'
    · rename_i hlt
      injection hi' with hi'; subst hi'
      have hjk : j < k := by rw [← hzl]; rcases Nat.lt_or_ge j zp.length with h | h; exact h; simp [List.getElem?_eq_none h] at hj
      obtain ⟨c, hc, hp⟩ := hzp j p hj
      refine ⟨c, ?_, hp _ _⟩
      have hik : i * k + j < cn * k := by
        have : (i + 1) * k ≤ cn * k := Nat.mul_le_mul_right _ (by omega)
        rw [Nat.succ_mul] at this; omega
      rw [← hcur, Nat.zero_add]
      have hmod : (i * k + j) % z.cells.size = j := by rw [hzs, Nat.mul_comm, Nat.mul_add_mod, Nat.mod_eq_of_lt hjk]
      have hjz : j < z.cells.size := by omega
      simp only [Array.getElem?_map, Array.getElem?_range, hzs, if_pos hik, Option.map_some]
      rw [hzs] at hmod
      rw [hmod, getElem!_pos z.cells j hjz]
      rw [Array.getElem?_eq_getElem hjz] at hc
      exact hc
    · cases hi'
  exact ⟨_, _, (h.new hn (kept_alloc w _) (fun b q e => by have e : b = w.heap.size := e; subst e; simp) hrel).put hN ⟨by show _ = vadd (upd ι n _ n) 0; rw [upd_same]; exact (vadd0 _).symm, rfl⟩⟩
end
end -- nc
end Go.Proofs.YtgjbehfdjnekdaaGreatDoor.Aw
end
section
/- Symbolic states: operations that change the call's own objects. -/
set_option linter.unusedVariables false
set_option linter.unusedSimpArgs false
namespace Go.Proofs.YtgjbehfdjnekdaaGreatDoor.Sy
open Go.RowKit
open Go.Proofs.YtgjbehfdjnekdaaGreatDoor.Aw
open Go.Proofs.YtgjbehfdjnekdaaGreatDoor.Xc (Tab TabOK XT TyOK Xv Xp toList_ba placesX run_places)
noncomputable section

/-- What an operation does: what it asks, what it gives, objects that go, objects that are told (anew), the next free name. -/
structure SE where
  obl : Option Prop
  v : Option Sv
  rm : List Nat
  ad : List (Nat × So)
  lo : Nat

def isD : Sc → Bool
  | .ref _ _ => false
  | .el _ _ _ _ => false
  | .clo _ _ => false
  | .any => false
  | _ => true
theorem isD_den {c : Sc} (h : isD c = true) : c.den = .dat c.pred := by cases c <;> first | rfl | cases h
def isDL : List Sc → Bool
  | [] => true
  | c :: l => isD c && isDL l
theorem isDL_den : ∀ {l : List Sc}, isDL l = true → l.map Sc.den = (predL l).map .dat
  | [], _ => by rw [predL]; rfl
  | c :: l, h => by
    simp only [isDL, Bool.and_eq_true] at h
    rw [predL, List.map_cons, List.map_cons, isD_den h.1, isDL_den h.2]

def updF (f : Nat → List Sc) (q : Nat) (cs : List Sc) : Nat → List Sc := fun i => if i = q then cs else f i
def catF (n : Nat) (f g : Nat → List Sc) : Nat → List Sc := fun i => if i < n then f i else g (i - n)
theorem els_upd {n q : Nat} {f : Nat → List Sc} {cs : List Sc} : els n (updF f q cs) = (els n f).set q (predL cs) := by
  refine List.ext_getElem? fun i => ?_
  rcases Nat.lt_or_ge i n with h | h
  · rw [els_at h, List.getElem?_set]
    by_cases e : q = i
    · subst e; rw [if_pos rfl, if_pos (by rw [els_length]; exact h)]; simp [updF]
    · rw [if_neg e, els_at h]; simp [updF, Ne.symm e]
  · rw [List.getElem?_eq_none (by rw [els_length]; exact h), List.getElem?_eq_none (by rw [List.length_set, els_length]; exact h)]
theorem els_cat {n m : Nat} {f g : Nat → List Sc} : els n f ++ els m g = els (n + m) (catF n f g) := els_append n m f g

/-- The parts of a literal: in order, each of k cells of data. -/
def litOK (k : Nat) : Nat → List (Nat × Sp) → Bool
  | _, [] => true
  | i, (j, p) :: l => j.beq i && p.cells.length.beq k && isDL p.cells && litOK k (i + 1) l
def litF (ps : List (Nat × Sp)) : Nat → List Sc := fun i => match ps[i]? with
  | some (_, p) => p.cells
  | none => []
def noV : Op → Bool
  | .store _ _ _ => true
  | _ => false

def newsS (σ : SS) (k : Nat) (c : Sc) : Option (Nat × (Nat → List Sc)) := match c with
  | .sl k' n f => bif k'.beq k then some (n, f) else none
  | .ref n 0 => match lk n σ.ob with
    | some (.row _ k' m f) => bif k'.beq k then some (m, f) else none
    | _ => none
  | .nils => some (0, fun _ => [])
  | _ => none
def appS (T : Tab) (σ : SS) (lo : Nat) (t : TypeId) (c y : Sc) : Option SE := match T.ty t with
  | some i => match i.desc with
    | .slice e => match T.ty e with
      | some j => bif Nat.blt 0 j.size && Nat.blt 0 j.bytes then match newsS σ j.size y with
        | some (m, g) => match c with
          | .nils => some ⟨some (m * j.bytes ≤ 140737488355328), some (.val (.one (.ref (lo + 1) 0))), [], [(lo + 1, .row e j.size m g)], lo + 2⟩
          | .ref n 0 => match lk n σ.ob with
            | some (.row e' k n' f) => bif e'.beq e && k.beq j.size then some ⟨some ((n' + m) * j.bytes ≤ 140737488355328), some (.val (.one (.ref lo 0))), [n], [(lo, .row e j.size (n' + m) (catF n' f g))], lo + 1⟩ else none
            | _ => none
          | _ => none
        | none => none
        else none
      | none => none
    | _ => none
  | none => none

def memS (T : Tab) (σ : SS) (lo : Nat) : Op → Option SE
  | .alloc t => match T.ty t with
    | some i => match zeroS i.zero with
      | some zc => some ⟨none, some (.val (.one (.ref lo 0))), [], [(lo, .box t zc)], lo + 1⟩
      | none => none
    | none => none
  | .box t x => match opd σ.sl x with
    | some (.val p) => some ⟨none, some (.val (.one (.ref lo 0))), [], [(lo, .box t p.cells)], lo + 1⟩
    | _ => none
  | .store t x y => match T.ty t, one σ.sl x, opd σ.sl y with
    | some i, some (.ref n off), some (.val p) => match lk n σ.ob with
      | some (.box T' cs) => bif p.cells.length.beq i.size && (off + i.size).ble cs.length then some ⟨none, none, [], [(n, .box T' (setS cs off p.cells))], lo⟩ else none
      | _ => none
    | some i, some (.el n q k j), some (.val p) => match lk n σ.ob with
      | some (.row T' k' m f) => bif k.beq k' && p.cells.length.beq i.size && isDL p.cells && (j + i.size).ble k then (bif j.beq 0 && i.size.beq k then some ⟨some (q < m), none, [], [(n, .row T' k m (updF f q p.cells))], lo⟩ else some ⟨some (q < m), none, [], [(n, .row T' k m (updF f q (setS (f q) j p.cells)))], lo⟩) else none
      | _ => none
    | _, _, _ => none
  | .buildSlice t len parts => match T.ty t, fpartsS σ.sl parts.toList with
    | some i, some ps => match i.desc with
      | .slice e => match T.ty e with
        | some j => bif Nat.blt 0 j.size && (len * j.size).ble 16777216 && litOK j.size 0 ps && ps.length.beq len then some ⟨none, some (.val (.one (.ref lo 0))), [], [(lo, .row e j.size len (litF ps))], lo + 1⟩ else none
        | none => none
      | _ => none
    | _, _ => none
  | .makeSlice t x y => match T.ty t, one σ.sl x, one σ.sl y with
    | some i, some (.int _ n), some (.int _ c) => match i.desc with
      | .slice e => match T.ty e with
        | some j => bif Nat.blt 0 j.size && Nat.blt 0 j.bytes then match zeroS j.zero with
          | some zc => bif isDL zc then some ⟨some (0 ≤ n ∧ n ≤ c ∧ c.toNat * j.bytes ≤ 140737488355328), some (.val (.one (.ref lo 0))), [], [(lo, .row e j.size n.toNat (fun _ => zc))], lo + 1⟩ else none
          | none => none
          else none
        | none => none
      | _ => none
    | _, _, _ => none
  | .call ⟨.builtin .append, xs, ts⟩ => match xs.toList, ts.toList with
    | [x, y], [t, t'] => bif t.beq t' then match one σ.sl x, one σ.sl y with
      | some c, some e => appS T σ lo t c e
      | _, _ => none
      else none
    | _, _ => none
  | _ => none

def denSl (l : List (Nat × Sv)) : List (Nat × AV) := l.map fun x => (x.1, x.2.den)
def denOb (l : List (Nat × So)) : List (Nat × Ob) := l.map fun x => (x.1, x.2.den)
def SE.dst (e : SE) (d : Option Nat) : List (Nat × Sv) := match d, e.v with
  | some d, some v => [(d, v)]
  | _, _ => []
def names (lo : Nat) : Nat → List Nat
  | 0 => []
  | n + 1 => lo :: names (lo + 1) n
theorem mem_names {n : Nat} : ∀ {k lo : Nat}, n ∈ names lo k ↔ lo ≤ n ∧ n < lo + k
  | 0, lo => by simp [names]
  | k + 1, lo => by simp only [names, List.mem_cons, mem_names]; omega
def SE.eff (e : SE) (d : Option Nat) (lo : Nat) (σ : SS) : Eff := ⟨denSl σ.sl, denOb σ.ob, denSl (e.dst d), e.rm, denOb e.ad, names lo (e.lo - lo)⟩

section
variable {P : Program} {X : Ctx} {T : Tab} {σ : SS} {τ : St} {o : Oper} {d : Nat}

theorem ap0 {e : SE} {lo : Nat} (hr : e.rm = []) : (e.eff o.dst lo σ).ap τ = ⟨denSl (e.dst o.dst) ++ τ.sl, denOb e.ad ++ τ.ob⟩ := by
  show (⟨_, _ ++ τ.ob.filter _⟩ : St) = _
  congr 2
  refine List.filter_eq_self.2 fun x _ => ?_
  show (!(e.rm.any x.1.beq)) = true
  rw [hr]; rfl

theorem lit_fill {k : Nat} : ∀ {ps : List (Nat × Sp)} {i : Nat} {pre : List Cell}, litOK k i ps = true → pre.length = i * k → ∀ n, ps.length = n →
    fillC (fun i => some (i * k, k)) (pre ++ List.replicate (n * k) .any) (ps.map fun x => (x.1, x.2.den)) = some (pre ++ ((ps.map fun x => predL x.2.cells).flatten.map .dat))
  | [], i, pre, _, hpre, n, hn => by subst hn; simp [fillC]
  | (j, p) :: ps, i, pre, h, hpre, n, hn => by
    simp only [litOK, Bool.and_eq_true] at h
    obtain ⟨⟨⟨h1, h2⟩, h3⟩, h4⟩ := h
    have := Nat.eq_of_beq_eq_true h1; subst this
    have hk := Nat.eq_of_beq_eq_true h2
    subst hn
    have hlen : p.den.cells.length = k := by rw [cells_den, List.length_map]; exact hk
    have hpd : p.den.cells = (predL p.cells).map .dat := by rw [cells_den]; exact isDL_den h3
    have hset : setCells (pre ++ List.replicate ((ps.length + 1) * k) Cell.any) (j * k) p.den.cells = (pre ++ p.den.cells) ++ List.replicate (ps.length * k) .any := by
      unfold setCells
      rw [← hpre, List.take_left, hlen]
      rw [show List.drop (pre.length + k) (pre ++ List.replicate ((ps.length + 1) * k) Cell.any) = List.replicate (ps.length * k) .any from by
        rw [List.drop_append, List.drop_eq_nil_of_le (by omega), List.nil_append, List.drop_replicate]
        congr 1
        rw [Nat.succ_mul]; omega]
    simp only [List.map_cons, fillC, List.length_cons]
    rw [if_pos ⟨hlen, by simp only [List.length_append, List.length_replicate, hpre]; rw [Nat.succ_mul]; omega⟩]
    rw [hset, lit_fill h4 (by rw [List.length_append, hlen, hpre, Nat.succ_mul]) ps.length rfl]
    rw [hpd]
    simp [List.flatten_cons]
theorem litF_els : ∀ (ps : List (Nat × Sp)), els ps.length (litF ps) = ps.map fun x => predL x.2.cells := fun ps => by
  refine List.ext_getElem? fun i => ?_
  rcases Nat.lt_or_ge i ps.length with h | h
  · rw [els_at h, List.getElem?_map, List.getElem?_eq_getElem h]
    simp [litF, h]
  · rw [List.getElem?_eq_none (by rw [els_length]; exact h), List.getElem?_eq_none (by rw [List.length_map]; exact h)]
theorem lit_len {k : Nat} : ∀ {ps : List (Nat × Sp)} {i : Nat}, litOK k i ps = true → ∀ x ∈ ps, x.2.cells.length = k
  | [], i, h, x, hx => by simp at hx
  | (j, p) :: ps, i, h, x, hx => by
    simp only [litOK, Bool.and_eq_true] at h
    rcases List.mem_cons.1 hx with rfl | hx
    · exact Nat.eq_of_beq_eq_true h.1.1.2
    · exact lit_len h.2 x hx

theorem newsS_ok (hs : SubS σ τ) {k : Nat} {y : Operand} {c : Sc} {m : Nat} {g : Nat → List Sc} (hy : one σ.sl y = some c) (h : newsS σ k c = some (m, g)) : ∀ ι F a w, RI X ι F τ a w → News w (Mof X.M0 F) k (els m g) (a.eval y) := by
  have hy' := opd1 hs hy
  unfold newsS at h
  split at h
  · rename_i k' n f
    cases hk : k'.beq k with
    | false => rw [hk, cond_false] at h; cases h
    | true =>
      rw [hk, cond_true] at h; injection h with h; injection h with h1 h2; subst h1; subst h2
      have := Nat.eq_of_beq_eq_true hk; subst this
      exact news_of_dat hy'
  · rename_i n
    split at h
    · rename_i T' k' m' f hl
      cases hk : k'.beq k with
      | false => rw [hk, cond_false] at h; cases h
      | true =>
        rw [hk, cond_true] at h; injection h with h; injection h with h1 h2; subst h1; subst h2
        have := Nat.eq_of_beq_eq_true hk; subst this
        exact news_of_ref hy' (hs.ob _ _ hl) ⟨rfl, rfl⟩
    · cases h
  · injection h with h; injection h with h1 h2; subst h1; subst h2
    intro ι F a w hR
    have he : a.eval y = .slice none 0 0 := (hR.opd hy').1
    exact ⟨none, 0, [], he, ⟨by simp [els], fun i ps hi => by simp [els] at hi⟩, fun t v hv => by simp at hv⟩
  · cases h

theorem sl_fresh {t : Nat} {v : AV} {n : Nat} (h : Aw.look t τ.sl = some v) (hf : τ.fresh n = true) : v.fresh n = true := by
  simp only [St.fresh, Bool.and_eq_true, List.all_eq_true] at hf
  exact hf.1 _ (look_mem h)
theorem opd_fresh {x : Operand} {v : AV} {n : Nat} (h : τ.opd x = some v) (hf : τ.fresh n = true) : v.fresh n = true := by
  unfold St.opd at h
  split at h
  · exact sl_fresh h hf
  all_goals first | (injection h with h; subst h; rfl) | cases h

theorem zero_fresh : ∀ {xs : List Xv} {zc : List Sc}, zeroS xs = some zc → isDL zc = true
  | [], zc, h => by simp only [zeroS, Option.some.injEq] at h; subst h; rfl
  | x :: xs, zc, h => by
    simp only [zeroS] at h
    split at h
    · rename_i c cs h1 h2
      injection h with h; subst h
      have := zero_fresh h2
      cases x <;> simp only [ofX, Option.some.injEq, reduceCtorEq] at h1 <;> subst h1 <;> simpa [isDL, isD] using this
    · cases h
theorem dat_fresh (l : List Pred) (n : Nat) : (l.map Cell.dat).all (Cell.fresh n) = true := by simp [Cell.fresh]

theorem zc_ok {xs : List Xv} {zc : List Sc} {vs : List Value} (h : zeroS xs = some zc) (hr : Xc.zerosA vs = some xs) : zcells vs = some (zc.map Sc.den) := by
  induction vs generalizing xs zc with
  | nil => simp only [Xc.zerosA, Option.some.injEq] at hr; subst hr; simp only [zeroS, Option.some.injEq] at h; subst h; rfl
  | cons v vs ih =>
    simp only [Xc.zerosA] at hr
    split at hr
    · rename_i x xs' h1 h2
      injection hr with hr; subst hr
      simp only [zeroS] at h
      split at h
      · rename_i c cs h3 h4
        injection h with h; subst h
        have := ih h4 h2
        simp only [zcells, this]
        have hv : valCell v = some c.den := by
          unfold Xc.constA at h1
          split at h1
          all_goals first
            | (injection h1 with h1; subst h1; simp only [ofX, Option.some.injEq, reduceCtorEq] at h3; subst h3; rfl)
            | (injection h1 with h1; subst h1; simp only [ofX, Option.some.injEq] at h3; subst h3; show some _ = some _; simp only [Sc.den, Sc.pred, ba_data])
            | cases h1
        rw [hv]; rfl
      · cases h
    · cases hr
end
end -- nc
end Go.Proofs.YtgjbehfdjnekdaaGreatDoor.Sy
end
