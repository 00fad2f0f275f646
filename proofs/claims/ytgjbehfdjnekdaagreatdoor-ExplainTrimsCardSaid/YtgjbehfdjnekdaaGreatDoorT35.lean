/- Parts of the proof of one statement: XGL, SyQ, SyE1, SyE2, SyE3, SyE4. -/
import Derived.Lib.LaidTab
import Derived.HandedShaped
import Derived.Test.YtgjbehfdjnekdaaGreatDoorRows
import Derived.Test.YtgjbehfdjnekdaaGreatDoorCards
import Derived.Test.YtgjbehfdjnekdaaGreatDoorTie
import Derived.Carry
import Derived.ProofKit
import Derived.Lay
import Derived.Deep.DeepHandedRow
import Derived.Test.YtgjbehfdjnekdaaGreatDoorT17
import Derived.Test.YtgjbehfdjnekdaaGreatDoorT27
import Derived.Test.YtgjbehfdjnekdaaGreatDoorT34
set_option linter.all false
section
/- The package variables at a row's start. -/
namespace Go.Proofs.YtgjbehfdjnekdaaGreatDoor.Xc
open Go Go.RowKit Go.Proofs Go.ChangeShapes Go.WideShapes Go.Lib
theorem vars_tail {P : Program} {W : World} {x : String × DataW Unit} {rest : List (String × DataW Unit)} {ps : List MemPlace} (h : DataW.LaidVars P W (x :: rest) ps) : ∃ qs, DataW.LaidVars P W rest qs := by
  obtain ⟨g', t', cs, fuel, p, q, hg', ht', hvar, hd, hr, _⟩ := h
  exact ⟨q, hr⟩
theorem tab_of_vars {P : Program} {W : World} {name : String} {k : IntKind} {zs : List Int} {rest : List (String × DataW Unit)} {ps : List MemPlace} {g : Nat} {t e : TypeId} {n : Nat}
    (hg : P.globalNamed name = some g) (hty : (P.globals[g]?).map (·.type) = some t) (ht : P.underlying t = some (.array n e)) (he : P.underlying e = some (.int k)) (hce : P.cellsOf e = 1) (hct : P.cellsOf t = n)
    (h : DataW.LaidVars P W ((name, tabData k zs) :: rest) ps) : TabIs P W name k zs := by
  obtain ⟨g', t', cs, fuel, p, q, hg', ht', hvar, hd, _, _⟩ := h
  obtain rfl := Option.some.inj (hg.symm.trans hg')
  obtain rfl := Option.some.inj (hty.symm.trans ht')
  unfold TabIs
  rw [hvar, ← cells_of_tab ht he hce hct hd]
theorem gPow : Tryz.prog.globalNamed "internal/strconv.uint64pow10" = some 3 := by kernel_rfl
theorem laidH {W : World} (h : laidMetH Tryz.prog Rows.explainTrimsUptoRow.laid W) : laidMet Tryz.prog Rows.explainTrimsUptoRow.laid W := h
theorem pow_tab {W : World} (h : laidMetH Tryz.prog Rows.explainTrimsUptoRow.laid W) : TabIs Tryz.prog W "internal/strconv.uint64pow10" .u64 [1, 10, 100, 1000, 10000, 100000, 1000000, 10000000, 100000000, 1000000000, 10000000000, 100000000000, 1000000000000, 10000000000000, 100000000000000, 1000000000000000, 10000000000000000, 100000000000000000, 1000000000000000000, 10000000000000000000] := by
  obtain ⟨ps, hv, _⟩ := laidH h
  obtain ⟨q1, h1⟩ := vars_tail hv
  obtain ⟨q2, h2⟩ := vars_tail h1
  exact tab_of_vars (t := 296) gPow (by kernel_rfl) Tryz.underlying296 Tryz.underlying239 (by kernel_rfl) (by kernel_rfl) h2
theorem gl_of {W : World} (h : laidMetH Tryz.prog Rows.explainTrimsUptoRow.laid W) (hS : World.ShapedOpen Tryz.prog W) : GL W where
  low := by
    have h1 : ((begin Tryz.prog (fun _ _ => 0) default).world.heap[lowN - 1]?.bind Obj.row?).isSome = true := by kernel_rfl
    obtain ⟨⟨z, t⟩, hz⟩ := Option.isSome_iff_exists.1 h1
    obtain ⟨cs, h2, _⟩ := hS.1 (lowN - 1) z t (Nat.lt_of_lt_of_le (Nat.lt_succ_self _) (Nat.le_of_ble_eq_true (by kernel_rfl))) hz
    have := Aw.lt_of_heap h2
    have h3 : lowN ≠ 0 := by decide
    omega
  ints := fun g hg => by
    obtain rfl : g = 0 := by simpa [intsL] using hg
    exact cell_of_shapedOpen_int (t := 3) (zero := #[.int .i64 0]) (k := .i64) hS (Nat.le_of_ble_eq_true (by kernel_rfl)) (by kernel_rfl) rfl (by kernel_rfl) (by kernel_rfl) Tryz.underlying3
  laid := fun g vs hg i v hi => by
    have e : g = 3 ∧ vs = laidL.head!.2 := by
      simp only [laidL, List.mem_singleton, Prod.mk.injEq] at hg
      exact ⟨hg.1, hg.2⟩
    obtain ⟨rfl, rfl⟩ := e
    have hlt : i < 20 := by
      rcases Nat.lt_or_ge i 20 with h | h
      · exact h
      · rw [List.getElem?_eq_none (by exact h)] at hi; cases hi
    rw [(pow_tab h).cell gPow i (by exact hlt)]
    rw [← hi]
    match i, hlt with
    | 0, _ | 1, _ | 2, _ | 3, _ | 4, _ | 5, _ | 6, _ | 7, _ | 8, _ | 9, _ | 10, _ | 11, _ | 12, _ | 13, _ | 14, _ | 15, _ | 16, _ | 17, _ | 18, _ | 19, _ => rfl
end Go.Proofs.YtgjbehfdjnekdaaGreatDoor.Xc
end
section
/- A law's row out of its contract: reading the arguments, and what is owed behind the call. -/
set_option linter.unusedVariables false
namespace Go.Proofs.YtgjbehfdjnekdaaGreatDoor.Sy
open Go Go.RowKit Go.Proofs Go.ChangeShapes Go.WideShapes Go.ChangeAt
open Go.Proofs.YtgjbehfdjnekdaaGreatDoor.Xc (Tab TabOK)
noncomputable section

theorem own : ownKnob Tryz.prog.godebug = none := by kernel_rfl
theorem laidOut : laidOutB Tryz.prog = true := by kernel_rfl

theorem below_trodAll {H : Type} {enc : TypeId × Value → H} {P : Program} (hl : laidOutB P = true) {W W' : World} (bel : Below W.heap.size W W') : ∀ {ts : List TypeId} {vs : List Value} {ds : List (DataW H)} {ps : List MemPlace}, (ts.all fun t => P.readableRec t && decide (t < P.types.size)) = true →
    DataW.TrodAll enc P W 0 (fun _ => true) true ts vs ds ps → DataW.TrodAll enc P W' 0 (fun b => decide (b < W.heap.size)) true ts vs ds ps
  | [], vs, ds, ps, _, h => by
    match vs, ds, h with
    | [], [], h => exact h
  | t :: ts, vs, ds, ps, ha, h => by
    match vs, ds, h with
    | v :: vs, d :: ds, ⟨p, q, h1, h2, e⟩ =>
      simp only [List.all_cons, Bool.and_eq_true, decide_eq_true_eq] at ha
      have lt : ∀ x ∈ p, x.block < W.heap.size := by obtain ⟨m, hm⟩ := h1; exact DataW.trod_lt m _ _ _ hm
      exact ⟨p, q, Below.trod hl ha.1.1 ha.1.2 h1 bel lt, below_trodAll hl bel ha.2 h2, e⟩

/-- A law that takes data of its parameters' kinds and answers true. -/
theorem law_calls {P : Program} {T : Tab} (hT : TabOK P T) (hlo : laidOutB P = true) {f : FuncId} {fn : Func} {s : ChangeSpec} {H : Type} {enc : TypeId × Value → H} {W : World} {base : Nat} {args : Array Value} {ds gs : List (DataW H)} {before : List MemPlace} {d : Nat} {rt : TypeId}
    (hvars : s.vars = []) (hpt : (fn.params.toList.all fun t => depT T d t && P.readableRec t && decide (t < P.types.size)) = true) (hrt : fn.resultTypes = #[rt]) (hbt : P.underlying rt = some .bool)
    (hs : ∀ ds : List (DataW H), ds.length = fn.params.size → s.fn H ds = { results := [.lit (.bool true)], args := ds })
    (hpc : ∀ qs, FitAll T d fn.params.toList qs → Aw.PC P f (qs.map Sp.den) [(Sp.one (.bool true)).den])
    (hval : ∀ (j : Nat) t v, fn.params[j]? = some t → args[j]? = some v → Value.okWide P W .any base t v)
    (hW : DataW.Whole enc P fn.params.toList s.vars false W args.toList ds gs before) (hwt : (DataW.weightsEach P (fn.params.toList ++ s.plain.varTypes P) (ds ++ gs)).all (· ≤ reachBytes) = true) (hGL : Xc.GL W) :
    Calls P f args W fun e W' => ∃ v, e = .returned v ∧ s.post enc P fn false true false false W args v W' := by
  have hW' := hW
  obtain ⟨p, q, hA0, hV, rfl, hfz, hnd⟩ := hW
  have hA : DataW.TrodAll enc P W 0 (fun _ => true) true fn.params.toList args.toList ds p := hA0
  rw [hvars] at hV
  obtain ⟨rfl, rfl⟩ := trodVars_none hV
  have hpt' := List.all_eq_true.1 hpt
  have hlen : ∀ {ts : List TypeId} {vs : List Value} {ds : List (DataW H)} {ps : List MemPlace}, DataW.TrodAll enc P W 0 (fun _ => true) true ts vs ds ps → ts.length = ds.length := by
    intro ts
    induction ts with
    | nil => intro vs ds ps h; match vs, ds, h with | [], [], _ => rfl
    | cons t ts ih => intro vs ds ps h; match vs, ds, h with | v :: vs, d :: ds, ⟨_, _, _, h2, _⟩ => simp [ih h2]
  have hdl := hlen hA
  have hw2 : ∀ n ∈ DataW.weightsEach P fn.params.toList ds, n ≤ reachBytes := by
    intro n hn
    have hsub : ∀ {ts us : List TypeId} {xs ys : List (DataW H)}, ts.length = xs.length → n ∈ DataW.weightsEach P ts xs → n ∈ DataW.weightsEach P (ts ++ us) (xs ++ ys) := by
      intro ts
      induction ts with
      | nil =>
        intro us xs ys _ h
        have : DataW.weightsEach P [] xs = [] := by cases xs <;> rw [DataW.weightsEach] <;> (intros; simp_all)
        rw [this] at h; cases h
      | cons t ts ih =>
        intro us xs ys hl h
        match xs, hl with
        | x :: xs, hl =>
          rw [DataW.weightsEach] at h
          rw [List.cons_append, List.cons_append, DataW.weightsEach]
          rcases List.mem_append.1 h with h | h
          · exact List.mem_append_left _ h
          · exact List.mem_append_right _ (ih (by simpa using hl) h)
    have := List.all_eq_true.1 hwt n (hsub hdl hn)
    simpa using this
  have hval2 : ∀ (j : Nat) t v, fn.params.toList[j]? = some t → args.toList[j]? = some v → Value.okWide P W .any base t v := by
    intro j t v ht hv
    have h1 : fn.params[j]? = some t := by rw [← Array.getElem?_toList]; exact ht
    have h2 : args[j]? = some v := by rw [← Array.getElem?_toList]; exact hv
    exact hval j t v h1 h2
  obtain ⟨qs, h1, h2, h3⟩ := reads_args (T := T) (d := d) (b0 := base) (r := .any) (ts := fn.params.toList) (vs := args.toList) hT (fun t ht => by have := hpt' t ht; simp only [Bool.and_eq_true] at this; exact this.1.1) hval2 hA hw2
  have hcall := hpc qs h1 W (fun _ _ => False) args.toList hGL (fun _ _ h => h.elim) h2
  have he : args.toList.toArray = args := by simp
  rw [he] at hcall
  refine hcall.mono fun e W' ⟨rs, hret, hres, bel⟩ => ?_
  subst hret
  have hrs : rs = [.bool true] := by
    obtain ⟨hl, hh⟩ := hres
    match rs, hl with
    | [v], _ =>
      have := (hh 0 _ v rfl rfl).1
      have : v = .bool true := this
      rw [this]
  subst hrs
  refine ⟨_, rfl, ds, [], p ++ [], [], p, [], hW', ?_, ?_, ?_, ?_, ?_⟩
  · rw [List.append_nil, hs ds (by rw [← hdl]; simp), hrt]
    exact trodAll_mk1 (shut_bool hbt _)
  · rw [List.append_nil, hs ds (by rw [← hdl]; simp)]
    refine below_trodAll hlo bel ?_ hA
    rw [List.all_eq_true]
    intro t ht
    have := hpt' t ht
    simp only [Bool.and_eq_true] at this ⊢
    exact ⟨this.1.2, this.2⟩
  · rw [hvars, List.append_nil, hs ds (by rw [← hdl]; simp)]
    first | exact trivial | rfl | simp [DataW.TrodVars]
  · exact bel.frame _
  · exact fun h => by cases h
end -- nc
end Go.Proofs.YtgjbehfdjnekdaaGreatDoor.Sy
end
section
/- ExplainTrims: the walks of the marks and of the position in a list. -/
set_option linter.unusedVariables false
set_option maxRecDepth 4000
namespace Go.Proofs.YtgjbehfdjnekdaaGreatDoor.Sy
open Go.RowKit
open Go.Proofs
open Go.Proofs.YtgjbehfdjnekdaaGreatDoor.Aw (LEN)
noncomputable section
structure Inf where
  kind : Int
  path : List UInt8
  place : Int
  number : Int
  left : Int
  right : Int
def dI : Inf := ⟨0, [], 0, 0, 0, 0⟩
def infC (x : Inf) : List Sc := [.int .i64 x.kind, .str x.path, .int .i64 x.place, .int .i64 x.number, .int .i64 x.left, .int .i64 x.right]
def slInf (l : List Inf) : Sc := .sl 6 l.length (fun i => infC (l.getD i dI))

/-- The marks, from one inference down. -/
def down (l : List Inf) : Nat → List Bool → Option (List Bool)
  | 0, m => some m
  | n + 1, m => if m.getD n false = true ∧ (l.getD n dI).kind = 3 then
      (if 0 ≤ (l.getD n dI).left ∧ (l.getD n dI).left < n ∧ 0 ≤ (l.getD n dI).right ∧ (l.getD n dI).right < n then down l n ((m.set (l.getD n dI).left.toNat true).set (l.getD n dI).right.toNat true) else none)
      else down l n m
def marksL (l : List Inf) (t : Nat) : Option (List Bool) := down l (t + 1) ((List.replicate l.length false).set t true)
def marksR (l : List Inf) (t : Nat) : List Sp := match marksL l t with
  | some m => [.one (slB m), .one (.bool true)]
  | none => [.one (slB []), .one (.bool false)]
theorem marksR_pure (l : List Inf) (t : Nat) : ((marksR l t).map Sp.den).all Aw.Part.pure = true := by
  unfold marksR; split <;> rfl

theorem marks_pc (l : List Inf) (t : Nat) (ht : t < l.length) : SPC Tryz.prog 52 [.one (slInf l), .one (.int .i64 t)] (marksR l t) := by
  refine spc_intro (T := stab) (fn := Tryz.f52) stab_ok rfl rfl rfl rfl (marksR_pure l t) fun w0 M hG => ?_
  refine sgo_bound 0 rfl fun hb => ?_
  rw [LEN_lt] at hb
  refine wp_go Xc.mixed stab_ok hG rfl 200 ?_
  refine And.intro (by simp only [show Xc.x4.bytes = 1 from rfl]; omega) ?_
  repeat refine And.intro (by omega) ?_
  refine sgo_loop (ι := Nat × List Bool) (fun x => [(7, .val (.one (.int .i64 ((x.1 : Int) - 1)))), (6, .val (.one (.ref 50 0)))]) (fun x => [(50, .row 4 1 x.2.length (fun i => [.bool (x.2.getD i false)]))])
    (List.range' 4 74) (fun x => x.1 ≤ l.length ∧ x.2.length = l.length ∧ down l x.1 x.2 = marksL l t) (fun x => x.1) (t + 1, (List.replicate l.length false).set t true) [(50, 0)] 100 ⟨by omega, by simp, rfl⟩
    ⟨⟨⟨_, rfl, SLe.int (by simp)⟩, ⟨_, rfl, SLe.rfl' _⟩, trivial⟩, ⟨by kernel_rfl, by kernel_rfl⟩, by kernel_rfl, ⟨⟨_, rfl, row_den (by simp) ?_⟩, trivial⟩, rfl⟩ ?_
  · intro i hi
    rw [Int.toNat_natCast] at hi
    exact upd_list (c := fun b => [.bool b]) (d := false) (y := true) (n := l.length) (q := t) (f := fun _ => [.bool false]) (rep_list (c := fun b => [.bool b]) false fun i hi => rfl) (by simp) rfl i hi
  · intro x hx ih
    obtain ⟨n, m⟩ := x
    dsimp only at hx ih ⊢
    obtain ⟨h1, h2, h3⟩ := hx
    cases n with
    | zero =>
      refine wp_go Xc.mixed stab_ok hG rfl 200 ?_
      refine And.intro (fun h => by simp at h) (fun _ => ?_)
      have hr : marksR l t = [.one (slB m), .one (.bool true)] := by unfold marksR; rw [← h3]; rfl
      rw [hr]
      refine sgo_frz 50 rfl ?_
      exact sgo_ret stab_ok rfl rfl (.cons (SLe.rfl' _) (.cons (SLe.rfl' _) .nil))
    | succ k =>
      have hk : (((k + 1 : Nat) : Int) - 1) = (k : Int) := by omega
      rw [hk]
      refine wp_go Xc.mixed stab_ok hG rfl 200 ?_
      refine And.intro (fun _ => ?_) (fun h => by simp at h)
      repeat refine And.intro (by first | omega | (intro _; omega)) ?_
      refine And.intro (fun hu => ?_) (fun hu => ?_) <;> simp only [Int.toNat_natCast] at hu
      · have hnd : ¬ (m.getD k false = true ∧ (l.getD k dI).kind = 3) := by
          intro ⟨e1, e2⟩
          rw [e1, e2] at hu; simp at hu
        refine ih (k, m) [(50, 50)] _ _ _ ⟨by omega, h2, ?_⟩ (by omega) ⟨⟨⟨_, rfl, SLe.int (wrap_id (by omega) (by omega))⟩, ⟨_, rfl, SLe.rfl' _⟩, trivial⟩, ⟨by kernel_rfl, by kernel_rfl⟩, by kernel_rfl, ⟨⟨_, rfl, rfl⟩, trivial⟩, by kernel_rfl⟩
        rw [← h3, down, if_neg hnd]
      · have hnd : m.getD k false = true ∧ (l.getD k dI).kind = 3 := by simpa using hu
        repeat refine And.intro (by first | omega | (intro _; omega)) ?_
        refine And.intro (fun hv => ?_) (fun hv => ?_) <;> simp only [Int.toNat_natCast] at hv
        · have hnb : ¬ (0 ≤ (l.getD k dI).left ∧ (l.getD k dI).left < k ∧ 0 ≤ (l.getD k dI).right ∧ (l.getD k dI).right < k) := by
            intro ⟨e1, e2, e3, e4⟩
            simp only [Bool.or_eq_true, decide_eq_true_eq] at hv
            omega
          have hr : marksR l t = [.one (slB []), .one (.bool false)] := by unfold marksR; rw [← h3, down, if_pos hnd, if_neg hnb]
          rw [hr]
          exact sgo_ret stab_ok rfl rfl (.cons SLe.nil (.cons (SLe.rfl' _) .nil))
        · have hnb : 0 ≤ (l.getD k dI).left ∧ (l.getD k dI).left < k ∧ 0 ≤ (l.getD k dI).right ∧ (l.getD k dI).right < k := by
            simp only [Bool.or_eq_false_iff, decide_eq_false_iff_not] at hv
            omega
          repeat refine And.intro (by first | omega | (simp only [Int.toNat_natCast]; omega)) ?_
          refine ih (k, (m.set (l.getD k dI).left.toNat true).set (l.getD k dI).right.toNat true) [(50, 50)] _ _ _ ⟨by omega, by simpa using h2, ?_⟩ (by omega) ?_
          · rw [← h3, down, if_pos hnd, if_pos hnb]
          · refine ⟨⟨⟨_, rfl, SLe.int (wrap_id (by omega) (by omega))⟩, ⟨_, rfl, SLe.rfl' _⟩, trivial⟩, ⟨by kernel_rfl, by kernel_rfl⟩, by kernel_rfl, ⟨⟨_, rfl, row_den (by simp) ?_⟩, trivial⟩, by kernel_rfl⟩
            exact upd_list (xs := m.set _ true) (c := fun b => [.bool b]) (d := false) (y := true) (upd_list (xs := m) (c := fun b => [.bool b]) (d := false) (y := true) (fun _ _ => rfl) rfl rfl) (by simp) rfl
def posI (xs : List Int) (n : Int) (i : Nat) : Int := if h : i < xs.length then (if xs.getD i 0 = n then i else posI xs n (i + 1)) else -1
  termination_by xs.length - i
theorem position_pc (xs : List Int) (n : Int) : SPC Tryz.prog 55 [.one (slI xs), .one (.int .i64 n)] [.one (.int .i64 (posI xs n 0))] := by
  refine spc_intro (T := stab) (fn := Tryz.f55) stab_ok rfl rfl rfl rfl rfl fun w0 M hG => ?_
  refine sgo_bound 0 rfl fun hb => ?_
  refine wp_go Xc.mixed stab_ok hG rfl 200 ?_
  refine sgo_loop (ι := Nat) (fun i => [(5, .val (.one (.int .i64 i)))]) (fun _ => []) [5,6,7,8,9,12,13,14,15,16,17,18,10,11,4] (fun i => i ≤ xs.length ∧ posI xs n i = posI xs n 0) (fun i => xs.length - i) 0 [] 100 ⟨Nat.zero_le _, rfl⟩ ⟨⟨⟨_, rfl, SLe.rfl' _⟩, trivial⟩, ⟨by kernel_rfl, by kernel_rfl⟩, by kernel_rfl, trivial, by kernel_rfl⟩ ?_
  intro i hi ih
  refine wp_go Xc.mixed stab_ok hG rfl 200 ?_
  refine And.intro (fun h => ?_) (fun h => ?_)
  · have h1 : i < xs.length := by simpa using h
    refine And.intro ⟨by omega, by omega⟩ ?_
    refine And.intro (fun h2 => ?_) (fun h2 => ?_)
    · refine sgo_ret stab_ok rfl rfl (.cons ?_ .nil)
      have h2 : xs.getD i 0 = n := by simpa using h2
      refine SLe.int ?_
      rw [← hi.2, posI, dif_pos h1, if_pos h2]
    · have h2 : ¬ (xs.getD i 0 = n) := by simpa using h2
      refine ih (i + 1) [] _ _ _ ⟨by omega, ?_⟩ (by omega) ⟨⟨⟨_, rfl, SLe.int (wrap_succ (by omega))⟩, trivial⟩, ⟨by kernel_rfl, by kernel_rfl⟩, by kernel_rfl, trivial, by kernel_rfl⟩
      rw [← hi.2, posI.eq_def xs n i, dif_pos h1, if_neg h2]
  · have h1 : ¬ i < xs.length := by simpa using h
    refine sgo_ret stab_ok rfl rfl (.cons ?_ .nil)
    refine SLe.int ?_
    rw [← hi.2, posI, dif_neg h1]
end -- nc
end Go.Proofs.YtgjbehfdjnekdaaGreatDoor.Sy
end
section
/- ExplainTrims: the walks of Used. -/
set_option linter.unusedVariables false
set_option maxRecDepth 4000
set_option pp.maxSteps 2000
namespace Go.Proofs.YtgjbehfdjnekdaaGreatDoor.Sy
open Go.RowKit
open Go.Proofs
open Go.Proofs.YtgjbehfdjnekdaaGreatDoor.Aw (LEN)
noncomputable section
def usedTo (m : List Bool) (i : Nat) : List Int := ((List.range i).filter fun j => m.getD j false).map fun (j : Nat) => (j : Int)
theorem usedTo_succ (m : List Bool) (i : Nat) : usedTo m (i + 1) = usedTo m i ++ (if m.getD i false = true then [(i : Int)] else []) := by
  unfold usedTo
  rw [List.range_succ, List.filter_append, List.map_append]
  congr 1
  by_cases h : m.getD i false = true
  · rw [if_pos h]; simp only [List.filter, h]; rfl
  · rw [if_neg h]; simp only [List.filter, h]; rfl
theorem usedTo_len (m : List Bool) (i : Nat) : (usedTo m i).length ≤ i := by
  unfold usedTo
  rw [List.length_map]
  exact Nat.le_trans (List.length_filter_le _ _) (by simp)
def usedS (l : List Inf) (t : Int) : List Int := if t < 0 ∨ (l.length : Int) ≤ t then [] else match marksL l t.toNat with
  | some m => usedTo m m.length
  | none => []
theorem down_len (l : List Inf) : ∀ (n : Nat) (m r : List Bool), down l n m = some r → r.length = m.length
  | 0, m, r, h => by simp only [down, Option.some.injEq] at h; rw [h]
  | n + 1, m, r, h => by
    simp only [down] at h
    split at h
    · split at h
      · have := down_len l n _ r h; simpa using this
      · cases h
    · exact down_len l n m r h
theorem marksL_len {l : List Inf} {t : Nat} {m : List Bool} (h : marksL l t = some m) : m.length = l.length := by
  have := down_len l _ _ _ h; simpa using this

theorem refUsed_pc (l : List Inf) (t : Int) (hl : l.length ≤ 400) : SPC Tryz.prog 19 [.one (slInf l), .one (.int .i64 t)] [.one (slI (usedS l t))] := by
  refine spc_intro (T := stab) (fn := Tryz.f19) stab_ok rfl rfl rfl rfl rfl fun w0 M hG => ?_
  refine wp_go Xc.mixed stab_ok hG rfl 200 ?_
  refine And.intro (fun h => ?_) (fun h => ?_)
  · have h : t < 0 ∨ (l.length : Int) ≤ t := by simpa using h
    have hr : usedS l t = [] := by unfold usedS; rw [if_pos h]
    rw [hr]
    exact sgo_ret stab_ok rfl rfl (.cons SLe.nil .nil)
  · have h : ¬ (t < 0 ∨ (l.length : Int) ≤ t) := by
      simp only [Bool.or_eq_false_iff, decide_eq_false_iff_not] at h
      omega
    obtain ⟨n, rfl⟩ : ∃ n : Nat, t = n := ⟨t.toNat, by omega⟩
    have hn : n < l.length := by omega
    have hp := marks_pc l n hn
    cases hm : marksL l n with
    | none =>
      have hr : usedS l n = [] := by unfold usedS; rw [if_neg h, Int.toNat_natCast, hm]
      have hq : marksR l n = [.one (slB []), .one (.bool false)] := by unfold marksR; rw [hm]
      rw [hq] at hp
      rw [hr]
      refine ⟨_, ⟨_, hp, LeS.rfl' _⟩, ?_⟩
      refine And.intro (fun _ => ?_) (fun h => by cases h)
      exact sgo_ret stab_ok rfl rfl (.cons SLe.nil .nil)
    | some m =>
      have hr : usedS l n = usedTo m m.length := by unfold usedS; rw [if_neg h, Int.toNat_natCast, hm]
      have hq : marksR l n = [.one (slB m), .one (.bool true)] := by unfold marksR; rw [hm]
      rw [hq] at hp
      rw [hr]
      refine ⟨_, ⟨_, hp, LeS.rfl' _⟩, ?_⟩
      refine And.intro (fun h => by cases h) (fun _ => ?_)
      have hml := marksL_len hm
      refine sgo_loop (ι := Nat) (fun i => [(8, .val (.one (.int .i64 i))), (7, .val (.one (.ref 50 0)))]) (fun i => [(50, .row 3 1 (usedTo m i).length (fun j => [.int .i64 ((usedTo m i).getD j 0)]))])
        (List.range' 26 15) (fun i => i ≤ m.length) (fun i => m.length - i) 0 [(50, 0)] 100 (Nat.zero_le _) ?_ ?_
      · exact ⟨⟨⟨_, rfl, SLe.rfl' _⟩, ⟨_, rfl, SLe.rfl' _⟩, trivial⟩, ⟨by kernel_rfl, by kernel_rfl⟩, by kernel_rfl, ⟨⟨_, rfl, row_den rfl (fun i hi => absurd hi (by simp))⟩, trivial⟩, by kernel_rfl⟩
      · intro i hi ih
        refine wp_go Xc.mixed stab_ok hG rfl 200 ?_
        refine And.intro (fun h => ?_) (fun h => ?_)
        · have h1 : i < m.length := by simpa using h
          repeat refine And.intro (by omega) ?_
          have hlen := usedTo_len m i
          refine And.intro (fun h2 => ?_) (fun h2 => ?_) <;> simp only [Int.toNat_natCast] at h2
          · refine And.intro (by simp only [show Xc.x3.bytes = 8 from rfl]; omega) ?_
            refine ih (i + 1) [(50, 101)] _ _ _ h1 (by omega) ?_
            refine ⟨⟨⟨_, rfl, SLe.int (wrap_succ (by rw [LEN_lt]; omega))⟩, ⟨_, rfl, SLe.rfl' _⟩, trivial⟩, ⟨by kernel_rfl, by kernel_rfl⟩, by kernel_rfl, ⟨⟨_, rfl, row_den ?_ ?_⟩, trivial⟩, by kernel_rfl⟩
            · rw [usedTo_succ, if_pos h2]; simp
            · rw [usedTo_succ, if_pos h2]
              exact cat_list (xs := usedTo m i) (ys := [(i : Int)]) (c := fun z => [.int .i64 z]) (d := 0) (fun _ _ => rfl) rfl (one_list (c := fun z => [.int .i64 z]) (y := (i : Int)) rfl)
          · refine ih (i + 1) [(50, 50)] _ _ _ h1 (by omega) ?_
            refine ⟨⟨⟨_, rfl, SLe.int (wrap_succ (by rw [LEN_lt]; omega))⟩, ⟨_, rfl, SLe.rfl' _⟩, trivial⟩, ⟨by kernel_rfl, by kernel_rfl⟩, by kernel_rfl, ⟨⟨_, rfl, ?_⟩, trivial⟩, by kernel_rfl⟩
            have e : usedTo m (i + 1) = usedTo m i := by rw [usedTo_succ, if_neg (by rw [h2]; simp), List.append_nil]
            rw [e]; rfl
        · have h1 : i = m.length := by
            have : ¬ i < m.length := by simpa using h
            omega
          subst h1
          refine sgo_frz 50 rfl ?_
          exact sgo_ret stab_ok rfl rfl (.cons (SLe.rfl' _) .nil)
end -- nc
end Go.Proofs.YtgjbehfdjnekdaaGreatDoor.Sy
end
section
/- ExplainTrims: the walk of the program's Used. -/
set_option linter.unusedVariables false
set_option maxRecDepth 4000
set_option pp.maxSteps 2000
namespace Go.Proofs.YtgjbehfdjnekdaaGreatDoor.Sy
open Go.RowKit
open Go.Proofs
open Go.Proofs.YtgjbehfdjnekdaaGreatDoor.Aw (LEN)
noncomputable section
theorem used_pc (l : List Inf) (t : Int) (hl : l.length ≤ 400) : SPC Tryz.prog 18 [.one (slInf l), .one (.int .i64 t)] [.one (slI (usedS l t))] := by
  refine spc_intro (T := stab) (fn := Tryz.f18) stab_ok rfl rfl rfl rfl rfl fun w0 M hG => ?_
  refine wp_go Xc.mixed stab_ok hG rfl 200 ?_
  refine And.intro (fun h => ?_) (fun h => ?_)
  · have h : t < 0 ∨ (l.length : Int) ≤ t := by simpa using h
    have hr : usedS l t = [] := by unfold usedS; rw [if_pos h]
    rw [hr]
    exact sgo_ret stab_ok rfl rfl (.cons SLe.nil .nil)
  · have h : ¬ (t < 0 ∨ (l.length : Int) ≤ t) := by
      simp only [Bool.or_eq_false_iff, decide_eq_false_iff_not] at h
      omega
    obtain ⟨t, rfl⟩ : ∃ n : Nat, t = n := ⟨t.toNat, by omega⟩
    have ht : t < l.length := by omega
    refine And.intro (by simp only [show Xc.x4.bytes = 1 from rfl]; omega) ?_
    repeat refine And.intro (by omega) ?_
    refine sgo_loop (ι := Nat × List Bool) (fun x => [(6, .val (.one (.int .i64 ((x.1 : Int) - 1)))), (5, .val (.one (.ref 50 0)))]) (fun x => [(50, .row 4 1 x.2.length (fun i => [.bool (x.2.getD i false)]))])
      (8 :: List.range' 27 44) (fun x => x.1 ≤ l.length ∧ x.2.length = l.length ∧ down l x.1 x.2 = marksL l t) (fun x => x.1) (t + 1, (List.replicate l.length false).set t true) [(50, 0)] 100 ⟨by omega, by simp, rfl⟩
      ⟨⟨⟨_, rfl, SLe.int (by simp)⟩, ⟨_, rfl, SLe.rfl' _⟩, trivial⟩, ⟨by kernel_rfl, by kernel_rfl⟩, by kernel_rfl, ⟨⟨_, rfl, row_den (by simp) ?_⟩, trivial⟩, by kernel_rfl⟩ ?_
    · intro i hi
      rw [Int.toNat_natCast] at hi
      exact upd_list (c := fun b => [.bool b]) (d := false) (y := true) (n := l.length) (q := t) (f := fun _ => [.bool false]) (rep_list (c := fun b => [.bool b]) false fun i hi => rfl) (by simp) rfl i hi
    intro x hx ih
    obtain ⟨n, m⟩ := x
    dsimp only at hx ih ⊢
    obtain ⟨h1, h2, h3⟩ := hx
    cases n with
    | zero =>
      have hm : marksL l t = some m := h3.symm
      have hr : usedS l t = usedTo m m.length := by unfold usedS; rw [if_neg h, Int.toNat_natCast, hm]
      rw [hr]
      refine wp_go Xc.mixed stab_ok hG rfl 200 ?_
      refine And.intro (fun h => by simp at h) (fun _ => ?_)
      refine sgo_nil 51 9 3 1 (fun _ => []) rfl (by show 9 < Tryz.f18.ntmps; decide) (by kernel_rfl) (by kernel_rfl) ?_
      refine sgo_loop (ι := Nat) (fun i => [(73, .val (.one (.int .i64 i))), (9, .val (.one (.ref 52 0)))]) (fun i => [(50, .row 4 1 m.length (fun i => [.bool (m.getD i false)])), (52, .row 3 1 (usedTo m i).length (fun j => [.int .i64 ((usedTo m i).getD j 0)]))])
        ([10, 11] ++ List.range' 74 10) (fun i => i ≤ m.length) (fun i => m.length - i) 0 [(52, 51)] 200 (Nat.zero_le _) ?_ ?_
      · exact ⟨⟨⟨_, rfl, SLe.rfl' _⟩, ⟨_, rfl, SLe.rfl' _⟩, trivial⟩, ⟨by kernel_rfl, by kernel_rfl⟩, by kernel_rfl, ⟨⟨_, rfl, rfl⟩, ⟨_, rfl, row_den rfl (fun i hi => absurd hi (by simp))⟩, trivial⟩, by kernel_rfl⟩
      · intro i hi ih
        refine wp_go Xc.mixed stab_ok hG rfl 200 ?_
        refine And.intro (fun h => ?_) (fun h => ?_)
        · have h1 : i < m.length := by simpa using h
          repeat refine And.intro (by omega) ?_
          have hlen := usedTo_len m i
          refine And.intro (fun h2 => ?_) (fun h2 => ?_) <;> simp only [Int.toNat_natCast] at h2
          · refine And.intro (by simp only [show Xc.x3.bytes = 8 from rfl]; omega) ?_
            refine ih (i + 1) [(52, 201)] _ _ _ h1 (by omega) ?_
            refine ⟨⟨⟨_, rfl, SLe.int (wrap_succ (by rw [LEN_lt]; omega))⟩, ⟨_, rfl, SLe.rfl' _⟩, trivial⟩, ⟨by kernel_rfl, by kernel_rfl⟩, by kernel_rfl, ⟨⟨_, rfl, rfl⟩, ⟨_, rfl, row_den ?_ ?_⟩, trivial⟩, by kernel_rfl⟩
            · rw [usedTo_succ, if_pos h2]; simp
            · rw [usedTo_succ, if_pos h2]
              exact cat_list (xs := usedTo m i) (ys := [(i : Int)]) (c := fun z => [.int .i64 z]) (d := 0) (fun _ _ => rfl) rfl (one_list (c := fun z => [.int .i64 z]) (y := (i : Int)) rfl)
          · refine ih (i + 1) [(52, 52)] _ _ _ h1 (by omega) ?_
            refine ⟨⟨⟨_, rfl, SLe.int (wrap_succ (by rw [LEN_lt]; omega))⟩, ⟨_, rfl, SLe.rfl' _⟩, trivial⟩, ⟨by kernel_rfl, by kernel_rfl⟩, by kernel_rfl, ⟨⟨_, rfl, rfl⟩, ⟨_, rfl, ?_⟩, trivial⟩, by kernel_rfl⟩
            have e : usedTo m (i + 1) = usedTo m i := by rw [usedTo_succ, if_neg (by rw [h2]; simp), List.append_nil]
            rw [e]; rfl
        · have h1 : i = m.length := by
            have : ¬ i < m.length := by simpa using h
            omega
          subst h1
          refine sgo_frz 52 rfl ?_
          exact sgo_ret stab_ok rfl rfl (.cons (SLe.rfl' _) .nil)
    | succ k =>
      have hk : (((k + 1 : Nat) : Int) - 1) = (k : Int) := by omega
      rw [hk]
      refine wp_go Xc.mixed stab_ok hG rfl 200 ?_
      refine And.intro (fun _ => ?_) (fun h => by simp at h)
      repeat refine And.intro (by first | omega | (intro _; omega)) ?_
      refine And.intro (fun hu => ?_) (fun hu => ?_) <;> simp only [Int.toNat_natCast] at hu
      · have hnd : ¬ (m.getD k false = true ∧ (l.getD k dI).kind = 3) := by
          intro ⟨e1, e2⟩
          rw [e1, e2] at hu; simp at hu
        refine ih (k, m) [(50, 50)] _ _ _ ⟨by omega, h2, ?_⟩ (by omega) ⟨⟨⟨_, rfl, SLe.int (wrap_id (by omega) (by omega))⟩, ⟨_, rfl, SLe.rfl' _⟩, trivial⟩, ⟨by kernel_rfl, by kernel_rfl⟩, by kernel_rfl, ⟨⟨_, rfl, rfl⟩, trivial⟩, by kernel_rfl⟩
        rw [← h3, down, if_neg hnd]
      · have hnd : m.getD k false = true ∧ (l.getD k dI).kind = 3 := by simpa using hu
        repeat refine And.intro (by first | omega | (intro _; omega)) ?_
        refine And.intro (by kernel_rfl) ?_
        generalize hL : (l.getD (Int.toNat (k : Int)) dI).left = L
        generalize hR : (l.getD (Int.toNat (k : Int)) dI).right = R
        have hL' : (l.getD k dI).left = L := by rw [← hL, Int.toNat_natCast]
        have hR' : (l.getD k dI).right = R := by rw [← hR, Int.toNat_natCast]
        have bad : ¬ (0 ≤ L ∧ L < k ∧ 0 ≤ R ∧ R < k) → usedS l t = [] := fun hb => by
          have hm : marksL l t = none := by rw [← h3, down, if_pos hnd, hL', hR', if_neg hb]
          unfold usedS; rw [if_neg h, Int.toNat_natCast, hm]
        have w1 : IntKind.i64.wrap (0 + 1) = 1 := by rw [IntKind.wrap_i64]; rfl
        have w2 : IntKind.i64.wrap (1 + 1) = 2 := by rw [IntKind.wrap_i64]; rfl
        refine wp_go Xc.mixed stab_ok hG rfl 200 ?_
        refine And.intro (fun _ => ?_) (fun h => by simp at h)
        repeat refine And.intro (by omega) ?_
        refine And.intro (fun hv => ?_) (fun hv => ?_)
        · simp only [Bool.or_eq_true, decide_eq_true_eq] at hv
          rw [bad (by omega)]
          exact sgo_ret stab_ok rfl rfl (.cons SLe.nil .nil)
        · simp only [Bool.or_eq_false_iff, decide_eq_false_iff_not] at hv
          repeat refine And.intro (by omega) ?_
          show GoS _ _ _ _ _ _ _
          rw [w1]
          refine wp_go Xc.mixed stab_ok hG rfl 200 ?_
          refine And.intro (fun _ => ?_) (fun h => by simp at h)
          repeat refine And.intro (by omega) ?_
          refine And.intro (fun hw => ?_) (fun hw => ?_)
          · simp only [Bool.or_eq_true, decide_eq_true_eq] at hw
            rw [bad (by omega)]
            exact sgo_ret stab_ok rfl rfl (.cons SLe.nil .nil)
          · simp only [Bool.or_eq_false_iff, decide_eq_false_iff_not] at hw
            repeat refine And.intro (by omega) ?_
            show GoS _ _ _ _ _ _ _
            rw [w2]
            refine wp_go Xc.mixed stab_ok hG rfl 200 ?_
            refine And.intro (fun h => by simp at h) (fun _ => ?_)
            have hnb : 0 ≤ L ∧ L < k ∧ 0 ≤ R ∧ R < k := by omega
            refine ih (k, (m.set L.toNat true).set R.toNat true) [(50, 50)] _ _ _ ⟨by omega, by simpa using h2, ?_⟩ (by omega) ?_
            · rw [← h3, down, if_pos hnd, hL', hR', if_pos hnb]
            · refine ⟨⟨⟨_, rfl, SLe.int (wrap_id (by omega) (by omega))⟩, ⟨_, rfl, SLe.rfl' _⟩, trivial⟩, ⟨by kernel_rfl, by kernel_rfl⟩, by kernel_rfl, ⟨⟨_, rfl, row_den (by simp) ?_⟩, trivial⟩, by kernel_rfl⟩
              exact upd_list (xs := m.set _ true) (c := fun b => [.bool b]) (d := false) (y := true) (upd_list (xs := m) (c := fun b => [.bool b]) (d := false) (y := true) (fun _ _ => rfl) rfl rfl) (by simp) rfl
end -- nc
end Go.Proofs.YtgjbehfdjnekdaaGreatDoor.Sy
end
section
/- ExplainTrims: the walks of Index, of the closure of Trim, of SameInferences and of Equal. -/
set_option linter.unusedVariables false
set_option maxRecDepth 4000
set_option pp.maxSteps 2000
namespace Go.Proofs.YtgjbehfdjnekdaaGreatDoor.Sy
open Go.RowKit
open Go.Proofs
open Go.Proofs.YtgjbehfdjnekdaaGreatDoor.Aw (LEN)
noncomputable section
theorem index_pc (xs : List Int) (n : Int) : SPC Tryz.prog 54 [.one (slI xs), .one (.int .i64 n)] [.one (.int .i64 (posI xs n 0))] := by
  refine spc_intro (T := stab) (fn := Tryz.f54) stab_ok rfl rfl rfl rfl rfl fun w0 M hG => ?_
  refine sgo_bound 0 rfl fun hb => ?_
  refine wp_go Xc.mixed stab_ok hG rfl 200 ?_
  refine sgo_loop (ι := Nat) (fun i => [(8, .val (.one (.int .i64 i)))]) (fun _ => []) ([4, 5] ++ List.range' 9 10) (fun i => i ≤ xs.length ∧ posI xs n i = posI xs n 0) (fun i => xs.length - i) 0 [] 100 ⟨Nat.zero_le _, rfl⟩ ⟨⟨⟨_, rfl, SLe.rfl' _⟩, trivial⟩, ⟨by kernel_rfl, by kernel_rfl⟩, by kernel_rfl, trivial, by kernel_rfl⟩ ?_
  intro i hi ih
  refine wp_go Xc.mixed stab_ok hG rfl 200 ?_
  refine And.intro (fun h => ?_) (fun h => ?_)
  · have h1 : i < xs.length := by simpa using h
    refine And.intro ⟨by omega, by omega⟩ ?_
    refine And.intro (fun h2 => ?_) (fun h2 => ?_) <;> simp only [Int.toNat_natCast] at h2
    · refine sgo_ret stab_ok rfl rfl (.cons ?_ .nil)
      have h2 : n = xs.getD i 0 := by simpa using h2
      refine SLe.int ?_
      rw [← hi.2, posI, dif_pos h1, if_pos h2.symm]
    · have h2 : ¬ (xs.getD i 0 = n) := by
        intro e; rw [e] at h2; simp at h2
      refine ih (i + 1) [] _ _ _ ⟨by omega, ?_⟩ (by omega) ⟨⟨⟨_, rfl, SLe.int (wrap_succ (by omega))⟩, trivial⟩, ⟨by kernel_rfl, by kernel_rfl⟩, by kernel_rfl, trivial, by kernel_rfl⟩
      rw [← hi.2, posI.eq_def xs n i, dif_pos h1, if_neg h2]
  · have h1 : ¬ i < xs.length := by simpa using h
    refine sgo_ret stab_ok rfl rfl (.cons ?_ .nil)
    refine SLe.int ?_
    rw [← hi.2, posI, dif_neg h1]

theorem now_pc (xs : List Int) (n : Int) : SPC Tryz.prog 53 [.one (.int .i64 n), .one (.pt [slI xs])] [.one (.int .i64 (posI xs n 0))] := by
  refine spc_intro (T := stab) (fn := Tryz.f53) stab_ok rfl rfl rfl rfl rfl fun w0 M hG => ?_
  refine wp_go Xc.mixed stab_ok hG rfl 200 ?_
  refine ⟨_, ⟨_, index_pc xs n, LeS.rfl' _⟩, ?_⟩
  exact sgo_ret stab_ok rfl rfl (.cons (SLe.rfl' _) .nil)

/-- Two lists, from an index on. -/
def eqFrom (xs ys : List Int) (i : Nat) : Bool := if h : i < xs.length then (if xs.getD i 0 = ys.getD i 0 then eqFrom xs ys (i + 1) else false) else true
  termination_by xs.length - i
def eqI (xs ys : List Int) : Bool := if xs.length = ys.length then eqFrom xs ys 0 else false
theorem eqFrom_self (xs : List Int) : ∀ (n i : Nat), xs.length - i = n → eqFrom xs xs i = true
  | 0, i, h => by rw [eqFrom, dif_neg (by omega)]
  | n + 1, i, h => by rw [eqFrom, dif_pos (by omega), if_pos rfl]; exact eqFrom_self xs n (i + 1) (by omega)
theorem eqI_self (xs : List Int) : eqI xs xs = true := by unfold eqI; rw [if_pos rfl]; exact eqFrom_self xs _ 0 rfl

theorem equal_pc (xs ys : List Int) : SPC Tryz.prog 17 [.one (slI xs), .one (slI ys)] [.one (.bool (eqI xs ys))] := by
  refine spc_intro (T := stab) (fn := Tryz.f17) stab_ok rfl rfl rfl rfl rfl fun w0 M hG => ?_
  refine sgo_bound 0 rfl fun hb => ?_
  refine wp_go Xc.mixed stab_ok hG rfl 200 ?_
  refine And.intro (fun h => ?_) (fun h => ?_)
  · have h : xs.length ≠ ys.length := by intro e; rw [e] at h; simp at h
    refine sgo_ret stab_ok rfl rfl (.cons (SLe.bool ?_) .nil)
    unfold eqI; rw [if_neg h]
  · have h : xs.length = ys.length := by
      have h : (xs.length : Int) = ys.length := by simpa using h
      omega
    have hr : eqI xs ys = eqFrom xs ys 0 := by unfold eqI; rw [if_pos h]
    rw [hr]
    refine sgo_loop (ι := Nat) (fun i => [(13, .val (.one (.int .i64 i)))]) (fun _ => []) ([4, 5] ++ List.range' 14 12) (fun i => i ≤ xs.length ∧ eqFrom xs ys i = eqFrom xs ys 0) (fun i => xs.length - i) 0 [] 100 ⟨Nat.zero_le _, rfl⟩ ⟨⟨⟨_, rfl, SLe.rfl' _⟩, trivial⟩, ⟨by kernel_rfl, by kernel_rfl⟩, by kernel_rfl, trivial, by kernel_rfl⟩ ?_
    intro i hi ih
    refine wp_go Xc.mixed stab_ok hG rfl 200 ?_
    refine And.intro (fun h => ?_) (fun h => ?_)
    · have h1 : i < xs.length := by simpa using h
      repeat refine And.intro (by omega) ?_
      refine And.intro (by kernel_rfl) ?_
      refine And.intro (fun h2 => ?_) (fun h2 => ?_) <;> simp only [Int.toNat_natCast] at h2
      · have h2 : ¬ xs.getD i 0 = ys.getD i 0 := by intro e; rw [e] at h2; simp at h2
        refine sgo_ret stab_ok rfl rfl (.cons (SLe.bool ?_) .nil)
        rw [← hi.2, eqFrom, dif_pos h1, if_neg h2]
      · have h2 : xs.getD i 0 = ys.getD i 0 := by simpa using h2
        refine ih (i + 1) [] _ _ _ ⟨by omega, ?_⟩ (by omega) ⟨⟨⟨_, rfl, SLe.int (wrap_succ (by omega))⟩, trivial⟩, ⟨by kernel_rfl, by kernel_rfl⟩, by kernel_rfl, trivial, by kernel_rfl⟩
        rw [← hi.2, eqFrom.eq_def xs ys i, dif_pos h1, if_pos h2]
    · have h1 : ¬ i < xs.length := by simpa using h
      refine sgo_ret stab_ok rfl rfl (.cons (SLe.bool ?_) .nil)
      rw [← hi.2, eqFrom, dif_neg h1]

/-- SameInferences at a list and itself. -/
theorem same_pc (xs : List Inf) : SPC Tryz.prog 20 [.one (slInf xs), .one (slInf xs)] [.one (.bool true)] := by
  refine spc_intro (T := stab) (fn := Tryz.f20) stab_ok rfl rfl rfl rfl rfl fun w0 M hG => ?_
  refine sgo_bound 0 rfl fun hb => ?_
  refine wp_go Xc.mixed stab_ok hG rfl 200 ?_
  refine And.intro (fun h => by simp at h) (fun _ => ?_)
  refine sgo_loop (ι := Nat) (fun i => [(5, .val (.one (.int .i64 i)))]) (fun _ => []) ([4] ++ List.range' 11 15) (fun i => i ≤ xs.length) (fun i => xs.length - i) 0 [] 100 (Nat.zero_le _) ⟨⟨⟨_, rfl, SLe.rfl' _⟩, trivial⟩, ⟨by kernel_rfl, by kernel_rfl⟩, by kernel_rfl, trivial, by kernel_rfl⟩ ?_
  intro i hi ih
  refine wp_go Xc.mixed stab_ok hG rfl 200 ?_
  refine And.intro (fun h => ?_) (fun h => ?_)
  · have h1 : i < xs.length := by simpa using h
    repeat refine And.intro (by omega) ?_
    refine And.intro (by kernel_rfl) ?_
    refine And.intro (fun h2 => by simp at h2) (fun h2 => ?_)
    exact ih (i + 1) [] _ _ _ (by omega) (by omega) ⟨⟨⟨_, rfl, SLe.int (wrap_succ (by omega))⟩, trivial⟩, ⟨by kernel_rfl, by kernel_rfl⟩, by kernel_rfl, trivial, by kernel_rfl⟩
  · exact sgo_ret stab_ok rfl rfl (.cons (SLe.rfl' _) .nil)
end -- nc
end Go.Proofs.YtgjbehfdjnekdaaGreatDoor.Sy
end
