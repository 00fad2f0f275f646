/- ExplainTrims: Used and Trim return what the definitions specify, for any inferences and target. The statement of the row, and its card. -/
import Derived.Test.YtgjbehfdjnekdaaGreatDoorT35
import Derived.Test.YtgjbehfdjnekdaaGreatDoorT36
set_option linter.all false
set_option linter.unusedVariables false
set_option maxRecDepth 4000
namespace Go.Proofs.YtgjbehfdjnekdaaGreatDoor.Sy
open Go Go.RowKit Go.Proofs Go.ChangeShapes Go.WideShapes Go.ChangeAt
open Go.Proofs.YtgjbehfdjnekdaaGreatDoor.Aw (LEN)
noncomputable section
theorem awake_pc : SPC Tryz.prog 11 [] [.one (.bool true)] where
  pc := fun w M vs hG hM h => by
    obtain ⟨hl, _⟩ := h
    obtain rfl : vs = [] := List.length_eq_zero_iff.1 hl.symm
    refine (Xc.awake_calls w hG).mono fun e w' ⟨he, hk⟩ => ⟨[.bool true], he, ⟨rfl, fun i p v hp hv => ?_⟩, hk.below⟩
    cases i with
    | zero =>
      simp only [List.map_cons, List.getElem?_cons_zero, Option.some.injEq] at hp hv
      subst hp; subst hv
      exact ⟨rfl, rfl⟩
    | succ i => simp at hp
  pa := rfl
  pr := rfl

theorem sp_pc {P : Program} {f : FuncId} {args res qs : List Sp} (h : SPC P f args res) (he : qs.map Sp.den = args.map Sp.den) : Aw.PC P f (qs.map Sp.den) (res.map Sp.den) := by rw [he]; exact h.pc
theorem fit_int {T : Xc.Tab} {d : Nat} {t : TypeId} {i : Xc.XT} {k : IntKind} {cs : List Sc} (h : T.ty t = some i) (hi : i.desc = .int k) (hf : Fit T (d + 1) t cs) : ∃ n, cs = [.int k n] := by
  rw [Fit, h] at hf; dsimp only at hf; rw [hi] at hf; exact hf.imp fun _ h => h.1
theorem fit_str {T : Xc.Tab} {d : Nat} {t : TypeId} {i : Xc.XT} {cs : List Sc} (h : T.ty t = some i) (hi : i.desc = .string) (hf : Fit T (d + 1) t cs) : ∃ s, cs = [.str s] := by
  rw [Fit, h] at hf; dsimp only at hf; rw [hi] at hf; exact hf.imp fun _ h => h.1
theorem fit_bool {T : Xc.Tab} {d : Nat} {t : TypeId} {i : Xc.XT} {cs : List Sc} (h : T.ty t = some i) (hi : i.desc = .bool) (hf : Fit T (d + 1) t cs) : ∃ b, cs = [.bool b] := by
  rw [Fit, h] at hf; dsimp only at hf; rw [hi] at hf; exact hf
theorem fit_slice {T : Xc.Tab} {d : Nat} {t e : TypeId} {i j : Xc.XT} {cs : List Sc} (h : T.ty t = some i) (hi : i.desc = .slice e) (hj : T.ty e = some j) (hf : Fit T (d + 1) t cs) : ∃ n f, cs = [.sl j.size n f] ∧ ∀ i, i < n → Fit T d e (f i) := by
  rw [Fit, h] at hf; dsimp only at hf; rw [hi] at hf; dsimp only at hf; rw [hj] at hf
  obtain ⟨n, f, h1, _, h2⟩ := hf
  exact ⟨n, f, h1, h2⟩
theorem fit_struct {T : Xc.Tab} {d : Nat} {t : TypeId} {i : Xc.XT} {fs : Array Field} {cs : List Sc} (h : T.ty t = some i) (hi : i.desc = .struct fs) (hf : Fit T (d + 1) t cs) : FitF (Fit T d) fs.toList cs := by
  rw [Fit, h] at hf; dsimp only at hf; rw [hi] at hf; exact hf
theorem fit_all2 {T : Xc.Tab} {d : Nat} {t u : TypeId} {qs : List Sp} (hT : isStr T t = false) (hU : isStr T u = false) (h : FitAll T d [t, u] qs) : ∃ a b, qs = [.one a, .one b] ∧ Fit T d t [a] ∧ Fit T d u [b] := by
  obtain ⟨p, q, rfl, h1, p2, q2, rfl, h2, rfl⟩ := h
  unfold FitP at h1 h2
  rw [hT] at h1; rw [hU] at h2
  obtain ⟨a, rfl, h1⟩ := h1
  obtain ⟨b, rfl, h2⟩ := h2
  exact ⟨a, b, rfl, h1, h2⟩

theorem fit_inf {cs : List Sc} (h : Fit stab 4 73 cs) : ∃ x : Inf, cs = infC x := by
  have h := fit_struct (i := Xc.x73) rfl rfl h
  obtain ⟨p1, q1, rfl, h1, p2, q2, rfl, h2, p3, q3, rfl, h3, p4, q4, rfl, h4, p5, q5, rfl, h5, p6, q6, rfl, h6, rfl⟩ := h
  obtain ⟨n1, rfl⟩ := fit_int (i := Xc.x3) rfl rfl h1
  obtain ⟨n2, rfl⟩ := fit_str (i := Xc.x9) rfl rfl h2
  obtain ⟨n3, rfl⟩ := fit_int (i := Xc.x3) rfl rfl h3
  obtain ⟨n4, rfl⟩ := fit_int (i := Xc.x3) rfl rfl h4
  obtain ⟨n5, rfl⟩ := fit_int (i := Xc.x3) rfl rfl h5
  obtain ⟨n6, rfl⟩ := fit_int (i := Xc.x3) rfl rfl h6
  exact ⟨⟨n1, n2, n3, n4, n5, n6⟩, rfl⟩
instance : Inhabited Inf := ⟨dI⟩
theorem trims_hpc (qs : List Sp) (h : FitAll stab 5 [32, 3] qs) : Aw.PC Tryz.prog 4 (qs.map Sp.den) [(Sp.one (Sc.bool true)).den] := by
  obtain ⟨a, b, rfl, h1, h2⟩ := fit_all2 rfl rfl h
  obtain ⟨n, f, ha, hf⟩ := fit_slice (i := Xc.x32) (j := Xc.x73) rfl rfl rfl h1
  obtain ⟨t, hb⟩ := fit_int (i := Xc.x3) rfl rfl h2
  injection ha with ha _; subst ha
  injection hb with hb _; subst hb
  obtain ⟨xs, hl, hx⟩ := list_of (f := f) (c := infC) dI fun i hi => by obtain ⟨x, hx⟩ := fit_inf (hf i hi); exact ⟨x, by rw [hx]⟩
  refine sp_pc (trims_pc awake_pc xs t) ?_
  have hp : (Sc.sl 6 n f).pred = (slInf xs).pred := sl_pred' (k := 6) (m := xs.length) (g := fun i => infC (xs.getD i dI)) hl.symm hx
  show [Aw.Part.one (.dat (Sc.sl 6 n f).pred), _] = [Aw.Part.one (.dat (slInf xs).pred), _]
  rw [hp]

/-- Every call of the law. -/
theorem trims_contract (H : Type) (enc : TypeId × Value → H) (W : World) (base : Nat) (args : Array Value) (ds gs : List (DataW H)) (before : List MemPlace)
    (hval : ∀ (j : Nat) t v, Tryz.f4.params[j]? = some t → args[j]? = some v → Value.okWide Tryz.prog W .any base t v)
    (hW : DataW.Whole enc Tryz.prog Tryz.f4.params.toList Rows.explainTrimsSpec.vars false W args.toList ds gs before)
    (hwt : (DataW.weightsEach Tryz.prog (Tryz.f4.params.toList ++ Rows.explainTrimsSpec.plain.varTypes Tryz.prog) (ds ++ gs)).all (· ≤ reachBytes) = true) (hG : Xc.GL W) :
    Calls Tryz.prog 4 args W fun e W' => ∃ v, e = .returned v ∧ Rows.explainTrimsSpec.post enc Tryz.prog Tryz.f4 false true false false W args v W' :=
  law_calls (T := stab) (d := 5) (rt := 4) stab_ok laidOut rfl (by kernel_rfl) rfl Tryz.underlying4 (fun ds h => by match ds, h with | [a, b], _ => rfl) (fun qs h => trims_hpc qs h) hval hW hwt hG

/-- A world for the witness: the settled one, the tables laid. -/
theorem law_met (os : Os) (args : Array Value) : laidMet Tryz.prog Rows.explainTrimsRow.laid (((World.laidAll Tryz.prog os Rows.explainTrimsRow.laid).forCall (fun _ _ => 0) ⟨#[], args, []⟩).memory) :=
  laidMet_laidAll args (by kernel_rfl) (by kernel_rfl)
def trimsArgs : Array Value := #[.slice none 0 0, .int .i64 0]
theorem trims_reads (os : Os) {H : Type} (enc : TypeId × Value → H) : ∃ ds places, DataW.whole enc Tryz.prog ((World.laidAll Tryz.prog os Rows.explainTrimsRow.laid).forCall (fun _ _ => 0) ⟨#[], trimsArgs, []⟩).memory Tryz.f4.params.toList Rows.explainTrimsSpec.vars false trimsArgs.toList 8 = some (ds, [], places) ∧
    (DataW.weightsEach Tryz.prog (Tryz.f4.params.toList ++ Rows.explainTrimsSpec.plain.varTypes Tryz.prog) ds).all (· ≤ reachBytes) = true := by
  refine ⟨[.nil, .lit (.int .i64 0)], [], by kernel_rfl, by kernel_rfl⟩
theorem trims_lifted (os : Os) (started : os.Started) (H : Type) (enc : TypeId × Value → H) (F : Stop.Interp) :
    ReturnsInHanded {} Tryz.checked os 4 .any ((OpenSpec.ofChange Rows.explainTrimsSpec).preRow enc Tryz.prog Tryz.f4 Rows.explainTrimsRow.domain false Rows.explainTrimsRow.laid) (((OpenSpec.ofChange Rows.explainTrimsSpec).at F).post enc Tryz.prog Tryz.f4 false true false false) := by
  obtain ⟨ds, places, hx, hwt⟩ := trims_reads os enc
  refine returnsInHanded_of_row (C := Tryz.checked) (s := OpenSpec.ofChange Rows.explainTrimsSpec) own started (by kernel_rfl) Tryz.func4
    (witness_row_at (enc := enc) (C := Tryz.checked) false (World.laidAll Tryz.prog os Rows.explainTrimsRow.laid) trimsArgs (World.laidAll_os _ _ _) (by kernel_rfl) (by kernel_rfl) (by kernel_rfl)
      (OpenSpec.preRow_of_cond 8 hx (by kernel_rfl) (fun k hk => by cases hk) (by kernel_rfl) (law_met os _))) ?_
  intro W base args ds gs before hval hW _ _ hwt hL hS _
  exact trims_contract H enc W base args ds gs before hval hW hwt (Xc.gl_of hL hS)
theorem trims_said : Rows.ExplainTrimsSaid :=
  OpenClaim.holds_of_cond 4 Tryz.f4 rfl rfl rfl rfl rfl rfl rfl ⟨rfl, rfl, rfl, rfl, rfl⟩ rfl rfl rfl rfl rfl trims_named Tryz.func4 trims_closed trims_inst trims_wrap
    (fun os started H enc _ F => by rw [OpenClaim.pre_eq_preRow]; exact trims_lifted os started H enc F)
theorem trims_plain (f : FuncId) (fn : Func) (hf : Tryz.pinned.checked.prog.funcNamed "modcert/modcertlaw38.ExplainTrims" = some f) (hfn : Tryz.pinned.checked.prog.funcs[f]? = some fn) :
    true = Tryz.pinned.checked.prog.looks [] ∧ ∀ (j : Nat) t, fn.params[j]? = some t → Tryz.pinned.checked.prog.wantsStandIn t = false := by
  obtain rfl : f = 4 := Option.some.inj ((show Tryz.prog.funcNamed "modcert/modcertlaw38.ExplainTrims" = some 4 by kernel_rfl).symm.trans hf) |>.symm
  obtain rfl : fn = Tryz.f4 := (Option.some.inj (Tryz.func4.symm.trans hfn)).symm
  refine ⟨by kernel_rfl, fun j t ht => ?_⟩
  rw [Tryz.params4] at ht
  have h := Array.mem_of_getElem? ht
  simp only [List.mem_toArray, List.mem_cons, List.not_mem_nil, or_false] at h
  rcases h with rfl | rfl
  · exact (show Tryz.prog.wantsStandIn 32 = false by kernel_rfl)
  · exact (show Tryz.prog.wantsStandIn 3 = false by kernel_rfl)
end -- nc
end Go.Proofs.YtgjbehfdjnekdaaGreatDoor.Sy
namespace Go.Proofs.YtgjbehfdjnekdaaGreatDoor
open Go Go.RowKit Go.Proofs Go.ChangeShapes Go.WideShapes Go.ChangeAt
theorem explainTrims_card : Rows.ExplainTrimsCardSaid :=
  Claim7.holds_tied_plain_at .later [] _ _ _ _ Sy.trims_said (fun _ h => by cases h) (by kernel_rfl) (fun _ h => by cases h) explainTrims_row_tie rfl ⟨rfl, rfl⟩ (by kernel_rfl) rfl Sy.trims_plain (by kernel_rfl)
end Go.Proofs.YtgjbehfdjnekdaaGreatDoor
#print axioms Go.Proofs.YtgjbehfdjnekdaaGreatDoor.explainTrims_card
