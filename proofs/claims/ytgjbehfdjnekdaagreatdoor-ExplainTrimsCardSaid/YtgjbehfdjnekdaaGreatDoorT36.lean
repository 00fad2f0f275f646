/- Parts of the proof of one statement: SyE5, SyE6, SyJ, SyC, SyD. -/
import Derived.JoinedCond
import Derived.Test.YtgjbehfdjnekdaaGreatDoorRows
import Derived.Test.YtgjbehfdjnekdaaGreatDoorChecked
import Derived.Test.YtgjbehfdjnekdaaGreatDoorT35
set_option linter.all false
section
/- ExplainTrims: the walks of Trim. -/
set_option linter.unusedVariables false
set_option maxRecDepth 4000
set_option pp.maxSteps 2000
namespace Go.Proofs.YtgjbehfdjnekdaaGreatDoor.Sy
open Go.RowKit
open Go.Proofs
open Go.Proofs.YtgjbehfdjnekdaaGreatDoor.Aw (LEN)
noncomputable section
def trimY (us : List Int) (x : Inf) : Inf := if x.kind = 3 then { x with left := posI us x.left 0, right := posI us x.right 0 } else x
def trimTo (us : List Int) (l : List Inf) (i : Nat) : List Inf := (us.take i).map fun z => trimY us (l.getD z.toNat dI)
def trimS (l : List Inf) (t : Int) : List Inf := trimTo (usedS l t) l (usedS l t).length
theorem trimTo_succ (us : List Int) (l : List Inf) (i : Nat) (h : i < us.length) : trimTo us l (i + 1) = trimTo us l i ++ [trimY us (l.getD (us.getD i 0).toNat dI)] := by
  unfold trimTo
  rw [List.take_add_one, List.map_append, List.getElem?_eq_getElem h]
  congr 1
  simp [List.getD_eq_getElem?_getD, List.getElem?_eq_getElem h]
theorem trimTo_len (us : List Int) (l : List Inf) (i : Nat) : (trimTo us l i).length ≤ i := by
  unfold trimTo; rw [List.length_map, List.length_take]; omega
theorem usedTo_mem {m : List Bool} {i : Nat} {z : Int} (h : z ∈ usedTo m i) : 0 ≤ z ∧ z < i := by
  unfold usedTo at h
  obtain ⟨j, hj, rfl⟩ := List.mem_map.1 h
  have := (List.mem_filter.1 hj).1
  have := List.mem_range.1 this
  omega
theorem usedS_mem {l : List Inf} {t z : Int} (h : z ∈ usedS l t) : 0 ≤ z ∧ z < l.length := by
  unfold usedS at h
  split at h
  · cases h
  · split at h
    · rename_i m hm
      have := usedTo_mem h
      rw [marksL_len hm] at this; exact this
    · cases h
theorem usedS_len (l : List Inf) (t : Int) : (usedS l t).length ≤ l.length := by
  unfold usedS
  split
  · simp
  · split
    · rename_i m hm
      have := usedTo_len m m.length
      rw [marksL_len hm] at this; rw [marksL_len hm]; exact this
    · simp
theorem getD_mem {xs : List Int} {i : Nat} (h : i < xs.length) : xs.getD i 0 ∈ xs := by
  rw [List.getD_eq_getElem?_getD, List.getElem?_eq_getElem h]; exact List.getElem_mem h

theorem refTrim_pc (l : List Inf) (t : Int) (hl : l.length ≤ 400) : SPC Tryz.prog 22 [.one (slInf l), .one (.int .i64 t)] [.one (slInf (trimS l t))] := by
  refine spc_intro (T := stab) (fn := Tryz.f22) stab_ok rfl rfl rfl rfl rfl fun w0 M hG => ?_
  refine wp_go Xc.mixed stab_ok hG rfl 200 ?_
  refine ⟨_, ⟨_, refUsed_pc l t hl, LeS.rfl' _⟩, ?_⟩
  have hul := usedS_len l t
  have hmem : ∀ {i : Nat}, i < (usedS l t).length → 0 ≤ (usedS l t).getD i 0 ∧ (usedS l t).getD i 0 < l.length := fun h => usedS_mem (getD_mem h)
  unfold trimS
  generalize usedS l t = us at hul hmem ⊢
  refine sgo_loop (ι := Nat) (fun i => [(7, .val (.one (.int .i64 i))), (6, .val (.one (.ref 50 0)))]) (fun i => [(50, .row 73 6 (trimTo us l i).length (fun j => infC ((trimTo us l i).getD j dI)))])
    ([8] ++ List.range' 13 30) (fun i => i ≤ us.length) (fun i => us.length - i) 0 [(50, 0)] 100 (Nat.zero_le _) ?_ ?_
  · exact ⟨⟨⟨_, rfl, SLe.rfl' _⟩, ⟨_, rfl, SLe.rfl' _⟩, trivial⟩, ⟨by kernel_rfl, by kernel_rfl⟩, by kernel_rfl, ⟨⟨_, rfl, row_den rfl (fun i hi => absurd hi (by simp))⟩, trivial⟩, by kernel_rfl⟩
  · intro i hi ih
    refine wp_go Xc.mixed stab_ok hG rfl 200 ?_
    refine And.intro (fun h => ?_) (fun h => ?_)
    · have h1 : i < us.length := by simpa using h
      have hb := hmem h1
      have hlen := trimTo_len us l i
      repeat refine And.intro (by first | omega | (simp only [Int.toNat_natCast]; omega)) ?_
      refine And.intro (fun h2 => ?_) (fun h2 => ?_) <;> simp only [Int.toNat_natCast] at h2
      · refine ⟨_, ⟨_, position_pc us _, LeS.rfl' _⟩, ?_⟩
        refine ⟨_, ⟨_, position_pc us _, LeS.rfl' _⟩, ?_⟩
        refine And.intro (by kernel_rfl) ?_
        refine And.intro (by simp only [show Xc.x73.bytes = 56 from rfl]; omega) ?_
        have hy : trimY us (l.getD (us.getD i 0).toNat dI) = { (l.getD (us.getD i 0).toNat dI) with left := posI us (l.getD (us.getD i 0).toNat dI).left 0, right := posI us (l.getD (us.getD i 0).toNat dI).right 0 } := by
          unfold trimY; rw [if_pos (by simpa using h2)]
        refine ih (i + 1) [(50, 102)] _ _ _ h1 (by omega) ?_
        refine ⟨⟨⟨_, rfl, SLe.int (wrap_succ (by rw [LEN_lt]; omega))⟩, ⟨_, rfl, SLe.rfl' _⟩, trivial⟩, ⟨by kernel_rfl, by kernel_rfl⟩, by kernel_rfl, ⟨⟨_, rfl, row_den ?_ ?_⟩, trivial⟩, by kernel_rfl⟩
        · rw [trimTo_succ us l i h1]; simp
        · rw [trimTo_succ us l i h1, hy]
          exact cat_list (xs := trimTo us l i) (ys := [_]) (c := infC) (d := dI) (fun _ _ => rfl) rfl (one_list (c := infC) rfl)
      · refine And.intro (by simp only [show Xc.x73.bytes = 56 from rfl]; omega) ?_
        have hy : trimY us (l.getD (us.getD i 0).toNat dI) = l.getD (us.getD i 0).toNat dI := by
          unfold trimY; rw [if_neg]; intro e; rw [e] at h2; simp at h2
        refine ih (i + 1) [(50, 102)] _ _ _ h1 (by omega) ?_
        refine ⟨⟨⟨_, rfl, SLe.int (wrap_succ (by rw [LEN_lt]; omega))⟩, ⟨_, rfl, SLe.rfl' _⟩, trivial⟩, ⟨by kernel_rfl, by kernel_rfl⟩, by kernel_rfl, ⟨⟨_, rfl, row_den ?_ ?_⟩, trivial⟩, by kernel_rfl⟩
        · rw [trimTo_succ us l i h1]; simp
        · rw [trimTo_succ us l i h1, hy]
          exact cat_list (xs := trimTo us l i) (ys := [_]) (c := infC) (d := dI) (fun _ _ => rfl) rfl (one_list (c := infC) rfl)
    · have h1 : i = us.length := by
        have : ¬ i < us.length := by simpa using h
        omega
      subst h1
      refine sgo_frz 50 rfl ?_
      exact sgo_ret stab_ok rfl rfl (.cons (SLe.rfl' _) .nil)

theorem trim_pc (l : List Inf) (t : Int) (hl : l.length ≤ 400) : SPC Tryz.prog 21 [.one (slInf l), .one (.int .i64 t)] [.one (slInf (trimS l t))] := by
  refine spc_intro (T := stab) (fn := Tryz.f21) stab_ok rfl rfl rfl rfl rfl fun w0 M hG => ?_
  refine wp_go Xc.mixed stab_ok hG rfl 200 ?_
  refine ⟨_, ⟨_, used_pc l t hl, LeS.rfl' _⟩, ?_⟩
  have hul := usedS_len l t
  have hmem : ∀ {i : Nat}, i < (usedS l t).length → 0 ≤ (usedS l t).getD i 0 ∧ (usedS l t).getD i 0 < l.length := fun h => usedS_mem (getD_mem h)
  unfold trimS
  generalize usedS l t = us at hul hmem ⊢
  refine sgo_frzbox 0 rfl rfl ?_
  refine sgo_nil 40 7 73 6 (fun _ => []) rfl (by show 7 < Tryz.f21.ntmps; decide) (by kernel_rfl) (by kernel_rfl) ?_
  refine sgo_loop (ι := Nat) (fun i => [(17, .val (.one (.int .i64 i))), (7, .val (.one (.ref 50 0)))]) (fun i => [(50, .row 73 6 (trimTo us l i).length (fun j => infC ((trimTo us l i).getD j dI)))])
    ([9, 10] ++ List.range' 18 26) (fun i => i ≤ us.length) (fun i => us.length - i) 0 [(50, 40)] 100 (Nat.zero_le _) ?_ ?_
  · exact ⟨⟨⟨_, rfl, SLe.rfl' _⟩, ⟨_, rfl, SLe.rfl' _⟩, trivial⟩, ⟨by kernel_rfl, by kernel_rfl⟩, by kernel_rfl, ⟨⟨_, rfl, row_den rfl (fun i hi => absurd hi (by simp))⟩, trivial⟩, by kernel_rfl⟩
  · intro i hi ih
    refine wp_go Xc.mixed stab_ok hG rfl 200 ?_
    refine And.intro (fun h => ?_) (fun h => ?_)
    · have h1 : i < us.length := by simpa using h
      have hb := hmem h1
      have hlen := trimTo_len us l i
      repeat refine And.intro (by first | omega | (simp only [Int.toNat_natCast]; omega)) ?_
      refine And.intro (fun h2 => ?_) (fun h2 => ?_) <;> simp only [Int.toNat_natCast] at h2
      · refine ⟨_, ⟨_, now_pc us _, LeS.rfl' _⟩, ?_⟩
        refine ⟨_, ⟨_, now_pc us _, LeS.rfl' _⟩, ?_⟩
        refine And.intro (by kernel_rfl) ?_
        refine And.intro (by simp only [show Xc.x73.bytes = 56 from rfl]; omega) ?_
        have hy : trimY us (l.getD (us.getD i 0).toNat dI) = { (l.getD (us.getD i 0).toNat dI) with left := posI us (l.getD (us.getD i 0).toNat dI).left 0, right := posI us (l.getD (us.getD i 0).toNat dI).right 0 } := by
          unfold trimY; rw [if_pos (by simpa using h2)]
        refine ih (i + 1) [(50, 102)] _ _ _ h1 (by omega) ?_
        refine ⟨⟨⟨_, rfl, SLe.int (wrap_succ (by rw [LEN_lt]; omega))⟩, ⟨_, rfl, SLe.rfl' _⟩, trivial⟩, ⟨by kernel_rfl, by kernel_rfl⟩, by kernel_rfl, ⟨⟨_, rfl, row_den ?_ ?_⟩, trivial⟩, by kernel_rfl⟩
        · rw [trimTo_succ us l i h1]; simp
        · rw [trimTo_succ us l i h1, hy]
          exact cat_list (xs := trimTo us l i) (ys := [_]) (c := infC) (d := dI) (fun _ _ => rfl) rfl (one_list (c := infC) rfl)
      · refine And.intro (by simp only [show Xc.x73.bytes = 56 from rfl]; omega) ?_
        have hy : trimY us (l.getD (us.getD i 0).toNat dI) = l.getD (us.getD i 0).toNat dI := by
          unfold trimY; rw [if_neg]; intro e; rw [e] at h2; simp at h2
        refine ih (i + 1) [(50, 102)] _ _ _ h1 (by omega) ?_
        refine ⟨⟨⟨_, rfl, SLe.int (wrap_succ (by rw [LEN_lt]; omega))⟩, ⟨_, rfl, SLe.rfl' _⟩, trivial⟩, ⟨by kernel_rfl, by kernel_rfl⟩, by kernel_rfl, ⟨⟨_, rfl, row_den ?_ ?_⟩, trivial⟩, by kernel_rfl⟩
        · rw [trimTo_succ us l i h1]; simp
        · rw [trimTo_succ us l i h1, hy]
          exact cat_list (xs := trimTo us l i) (ys := [_]) (c := infC) (d := dI) (fun _ _ => rfl) rfl (one_list (c := infC) rfl)
    · have h1 : i = us.length := by
        have : ¬ i < us.length := by simpa using h
        omega
      subst h1
      refine sgo_frz 50 rfl ?_
      exact sgo_ret stab_ok rfl rfl (.cons (SLe.rfl' _) .nil)
end -- nc
end Go.Proofs.YtgjbehfdjnekdaaGreatDoor.Sy
end
section
/- ExplainTrims: the walk of the law. -/
set_option linter.unusedVariables false
set_option maxRecDepth 4000
set_option pp.maxSteps 2000
namespace Go.Proofs.YtgjbehfdjnekdaaGreatDoor.Sy
open Go.RowKit
open Go.Proofs
open Go.Proofs.YtgjbehfdjnekdaaGreatDoor.Aw (LEN)
noncomputable section
theorem trims_pc (haw : SPC Tryz.prog 11 [] [.one (.bool true)]) (l : List Inf) (t : Int) : SPC Tryz.prog 4 [.one (slInf l), .one (.int .i64 t)] [.one (.bool true)] := by
  refine spc_intro (T := stab) (fn := Tryz.f4) stab_ok rfl rfl rfl rfl rfl fun w0 M hG => ?_
  refine wp_go Xc.mixed stab_ok hG rfl 200 ?_
  refine ⟨_, ⟨_, haw, LeS.rfl' _⟩, ?_⟩
  refine And.intro (fun h => by simp at h) (fun _ => ?_)
  refine And.intro (fun h => ?_) (fun h => ?_)
  · exact sgo_ret stab_ok rfl rfl (.cons (SLe.rfl' _) .nil)
  · have hl : l.length ≤ 400 := by
      have : ¬ ((l.length : Int) > 400) := by simpa using h
      omega
    refine ⟨_, ⟨_, used_pc l t hl, LeS.rfl' _⟩, ?_⟩
    refine ⟨_, ⟨_, refUsed_pc l t hl, LeS.rfl' _⟩, ?_⟩
    refine ⟨_, ⟨_, equal_pc _ _, LeS.rfl' _⟩, ?_⟩
    refine ⟨_, fun _ => ⟨_, trim_pc l t hl, LeS.rfl' _⟩, ?_⟩
    refine ⟨_, fun _ => ⟨_, refTrim_pc l t hl, LeS.rfl' _⟩, ?_⟩
    refine ⟨_, fun _ => ⟨_, same_pc _, LeS.rfl' _⟩, ?_⟩
    refine sgo_ret stab_ok rfl rfl (.cons (SLe.bool ?_) .nil)
    rw [eqI_self]; rfl
end -- nc
end Go.Proofs.YtgjbehfdjnekdaaGreatDoor.Sy
end
section
/- The closed facts of a row: their sum. -/
namespace Go.Proofs.YtgjbehfdjnekdaaGreatDoor.Sy
open Go Go.Proofs
theorem joined_mk {P : Program} {f : FuncId} {fn : Func} {s : ChangeSpec} {c : OpenClaim}
    (j0 : (c.wf (OpenSpec.ofChange s)) = true)
    (j1 : (laidOutB P) = true)
    (j2 : (mapsRowed P) = true)
    (j3 : (fn.params.all (P.readableRec ·)) = true)
    (j4 : (namedTie P c.named s.vars) = true)
    (j5 : ((c.stops == [])) = true)
    (j6 : ((P.stops == [])) = true)
    (j7 : ((c.knobs == [])) = true)
    (j8 : ((P.stopKnobs == [])) = true)
    (j9 : ((c.inPlace == P.inPlace f)) = true)
    (j10 : ((c.unfollowed == P.unfollowed f)) = true)
    (j11 : ((c.recurses == P.recurses f)) = true)
    (j12 : ((c.named == P.varsNamed f)) = true)
    (j13 : ((c.maps == (fn.params.toList ++ s.plain.varTypes P).any (P.mapsRec ·))) = true)
    (j14 : ((c.ifaces == (fn.params.toList ++ s.plain.varTypes P).any (P.ifacesRec ·))) = true)
    (j15 : ((c.mapsOut == P.mapsAmong fn.resultTypes.toList)) = true)
    (j16 : ((c.loops == (fn.params.toList ++ s.plain.varTypes P).any (P.loopsFrom ·))) = true)
    (j17 : ((c.wideKeys == (fn.params.toList ++ s.plain.varTypes P ++ fn.resultTypes.toList).any (P.wideKeysFrom ·))) = true)
    (j18 : (s.vars.all (P.varReadable ·)) = true)
    (j19 : (fn.resultTypes.all (fun t => P.readableRec t && decide (t < P.types.size))) = true)
    (j20 : ((c.ifacesOut == fn.resultTypes.toList.any (P.ifacesRec ·))) = true)
    (j21 : ((c.loopsOut == fn.resultTypes.toList.any (P.loopsFrom ·))) = true)
    (j22 : ((c.plainKeys == P.plainKeys)) = true)
    (j23 : (c.shortTexts.isNone) = true)
    (j24 : (P.stopsHeard) = true)
    (j25 : (P.mayEnter) = true)
    (j26 : ((c.lifted == P.liftsFinal)) = true)
    (j27 : ((P.make == some c.make)) = true)
    (j28 : ((c.kinds == (if c.domain.isEmpty then [] else fn.params.toList.map fun t => match P.underlying t with | some (.int k) => some k | _ => none))) = true)
    (j29 : ((c.pinned == c.pinnedBy)) = true)
    (j30 : ((c.veiled == (fn.params.toList ++ s.plain.varTypes P ++ fn.resultTypes.toList).any (P.veiledRec ·))) = true)
    (j31 : (c.veiledFits P fn.params.toList (fn.params.toList ++ s.plain.varTypes P ++ fn.resultTypes.toList)) = true)
    : joinedFacts P f fn s c = true := by
  unfold joinedFacts
  simp only [Bool.and_eq_true]
  exact ⟨⟨⟨⟨⟨⟨⟨⟨⟨⟨⟨⟨⟨⟨⟨⟨⟨⟨⟨⟨⟨⟨⟨⟨⟨⟨⟨⟨⟨⟨⟨j0, j1⟩, j2⟩, j3⟩, j4⟩, j5⟩, j6⟩, j7⟩, j8⟩, j9⟩, j10⟩, j11⟩, j12⟩, j13⟩, j14⟩, j15⟩, j16⟩, j17⟩, j18⟩, j19⟩, j20⟩, j21⟩, j22⟩, j23⟩, j24⟩, j25⟩, j26⟩, j27⟩, j28⟩, j29⟩, j30⟩, j31⟩
end Go.Proofs.YtgjbehfdjnekdaaGreatDoor.Sy
end
section
/- The closed facts of the row explainTrimsRow, one by one. -/
namespace Go.Proofs.YtgjbehfdjnekdaaGreatDoor.Sy
open Go Go.Proofs
theorem trims_j0 : (Rows.explainTrimsRow.wf (OpenSpec.ofChange Rows.explainTrimsSpec)) = true := by kernel_rfl
theorem trims_j1 : (laidOutB Tryz.prog) = true := by kernel_rfl
theorem trims_j2 : (mapsRowed Tryz.prog) = true := by kernel_rfl
theorem trims_j3 : (Tryz.f4.params.all (Tryz.prog.readableRec ·)) = true := by kernel_rfl
theorem trims_j4 : (namedTie Tryz.prog Rows.explainTrimsRow.named Rows.explainTrimsSpec.vars) = true := by kernel_rfl
theorem trims_j5 : ((Rows.explainTrimsRow.stops == [])) = true := by kernel_rfl
theorem trims_j6 : ((Tryz.prog.stops == [])) = true := by kernel_rfl
theorem trims_j7 : ((Rows.explainTrimsRow.knobs == [])) = true := by kernel_rfl
theorem trims_j8 : ((Tryz.prog.stopKnobs == [])) = true := by kernel_rfl
theorem trims_j9 : ((Rows.explainTrimsRow.inPlace == Tryz.prog.inPlace 4)) = true := by kernel_rfl
theorem trims_j10 : ((Rows.explainTrimsRow.unfollowed == Tryz.prog.unfollowed 4)) = true := by kernel_rfl
theorem trims_j11 : ((Rows.explainTrimsRow.recurses == Tryz.prog.recurses 4)) = true := by kernel_rfl
theorem trims_j12 : ((Rows.explainTrimsRow.named == Tryz.prog.varsNamed 4)) = true := by kernel_rfl
theorem trims_j13 : ((Rows.explainTrimsRow.maps == (Tryz.f4.params.toList ++ Rows.explainTrimsSpec.plain.varTypes Tryz.prog).any (Tryz.prog.mapsRec ·))) = true := by kernel_rfl
theorem trims_j14 : ((Rows.explainTrimsRow.ifaces == (Tryz.f4.params.toList ++ Rows.explainTrimsSpec.plain.varTypes Tryz.prog).any (Tryz.prog.ifacesRec ·))) = true := by kernel_rfl
theorem trims_j15 : ((Rows.explainTrimsRow.mapsOut == Tryz.prog.mapsAmong Tryz.f4.resultTypes.toList)) = true := by kernel_rfl
theorem trims_j16 : ((Rows.explainTrimsRow.loops == (Tryz.f4.params.toList ++ Rows.explainTrimsSpec.plain.varTypes Tryz.prog).any (Tryz.prog.loopsFrom ·))) = true := by kernel_rfl
theorem trims_j17 : ((Rows.explainTrimsRow.wideKeys == (Tryz.f4.params.toList ++ Rows.explainTrimsSpec.plain.varTypes Tryz.prog ++ Tryz.f4.resultTypes.toList).any (Tryz.prog.wideKeysFrom ·))) = true := by kernel_rfl
theorem trims_j18 : (Rows.explainTrimsSpec.vars.all (Tryz.prog.varReadable ·)) = true := by kernel_rfl
theorem trims_j19 : (Tryz.f4.resultTypes.all (fun t => Tryz.prog.readableRec t && decide (t < Tryz.prog.types.size))) = true := by kernel_rfl
theorem trims_j20 : ((Rows.explainTrimsRow.ifacesOut == Tryz.f4.resultTypes.toList.any (Tryz.prog.ifacesRec ·))) = true := by kernel_rfl
theorem trims_j21 : ((Rows.explainTrimsRow.loopsOut == Tryz.f4.resultTypes.toList.any (Tryz.prog.loopsFrom ·))) = true := by kernel_rfl
theorem trims_j22 : ((Rows.explainTrimsRow.plainKeys == Tryz.prog.plainKeys)) = true := by kernel_rfl
theorem trims_j23 : (Rows.explainTrimsRow.shortTexts.isNone) = true := by kernel_rfl
theorem trims_j24 : (Tryz.prog.stopsHeard) = true := by kernel_rfl
theorem trims_j25 : (Tryz.prog.mayEnter) = true := by kernel_rfl
theorem trims_j26 : ((Rows.explainTrimsRow.lifted == Tryz.prog.liftsFinal)) = true := by kernel_rfl
theorem trims_j27 : ((Tryz.prog.make == some Rows.explainTrimsRow.make)) = true := by kernel_rfl
theorem trims_j28 : ((Rows.explainTrimsRow.kinds == (if Rows.explainTrimsRow.domain.isEmpty then [] else Tryz.f4.params.toList.map fun t => match Tryz.prog.underlying t with | some (.int k) => some k | _ => none))) = true := by kernel_rfl
theorem trims_j29 : ((Rows.explainTrimsRow.pinned == Rows.explainTrimsRow.pinnedBy)) = true := by kernel_rfl
theorem trims_j30 : ((Rows.explainTrimsRow.veiled == (Tryz.f4.params.toList ++ Rows.explainTrimsSpec.plain.varTypes Tryz.prog ++ Tryz.f4.resultTypes.toList).any (Tryz.prog.veiledRec ·))) = true := by kernel_rfl
theorem trims_j31 : (Rows.explainTrimsRow.veiledFits Tryz.prog Tryz.f4.params.toList (Tryz.f4.params.toList ++ Rows.explainTrimsSpec.plain.varTypes Tryz.prog ++ Tryz.f4.resultTypes.toList)) = true := by kernel_rfl
theorem trims_inst : Tryz.f4.isInstance Tryz.prog Rows.explainTrimsRow.origin Rows.explainTrimsRow.targs := of_decide_eq_true (by kernel_rfl)
theorem trims_wrap : Tryz.f4.isWrapper Tryz.prog Rows.explainTrimsRow.wrapper Rows.explainTrimsRow.mainSum := by unfold Func.isWrapper; first | (rw [if_pos (by decide +kernel)]; kernel_rfl) | (rw [if_neg (by decide +kernel)]; exact ⟨rfl, rfl⟩)
theorem trims_named : Tryz.prog.funcNamed Rows.explainTrimsRow.func = some 4 := by kernel_rfl
end Go.Proofs.YtgjbehfdjnekdaaGreatDoor.Sy
end
section
/- The closed facts of the row explainTrimsRow: their sum. -/
set_option maxRecDepth 100000
namespace Go.Proofs.YtgjbehfdjnekdaaGreatDoor.Sy
open Go Go.Proofs
theorem trims_closed : joinedFacts Tryz.prog 4 Tryz.f4 Rows.explainTrimsSpec Rows.explainTrimsRow = true := joined_mk (P := Tryz.prog) (f := 4) (fn := Tryz.f4) (s := Rows.explainTrimsSpec) (c := Rows.explainTrimsRow) trims_j0 trims_j1 trims_j2 trims_j3 trims_j4 trims_j5 trims_j6 trims_j7 trims_j8 trims_j9 trims_j10 trims_j11 trims_j12 trims_j13 trims_j14 trims_j15 trims_j16 trims_j17 trims_j18 trims_j19 trims_j20 trims_j21 trims_j22 trims_j23 trims_j24 trims_j25 trims_j26 trims_j27 trims_j28 trims_j29 trims_j30 trims_j31
end Go.Proofs.YtgjbehfdjnekdaaGreatDoor.Sy
end
