/- Parts of the proof of one statement: XS, XRun, XR0, XR1, XR2. -/
import Derived.Test.YtgjbehfdjnekdaaGreatDoorT27
set_option linter.all false
section
/- Calls of a closed run that are known: slices.Sort of ints. -/
set_option linter.unusedVariables false
set_option linter.unusedSimpArgs false
namespace Go.Proofs.YtgjbehfdjnekdaaGreatDoor.Xc
noncomputable section
open Go.RowKit
open Go.Sort
open Go.Proofs.YtgjbehfdjnekdaaGreatDoor.Aw (Kept retv)

def SortedZ (l : List Int) : Prop := l.Pairwise fun a b => a ≤ b
theorem insZ_sorted (z : Int) : ∀ {l : List Int}, SortedZ l → SortedZ (insZ z l)
  | [], _ => List.pairwise_singleton _ _
  | x :: l, h => by
    have h1 := List.pairwise_cons.1 h
    simp only [insZ]
    cases e : decide (z ≤ x) with
    | true =>
      have e := of_decide_eq_true e
      refine List.pairwise_cons.2 ⟨fun y hy => ?_, h⟩
      rcases List.mem_cons.1 hy with rfl | hy
      · exact e
      · exact Int.le_trans e (h1.1 y hy)
    | false =>
      have e := of_decide_eq_false e
      refine List.pairwise_cons.2 ⟨fun y hy => ?_, insZ_sorted z h1.2⟩
      rcases List.mem_cons.1 ((insZ_perm z l).mem_iff.1 hy) with rfl | hy
      · omega
      · exact h1.1 y hy
theorem sortZ_sorted : ∀ l : List Int, SortedZ (sortZ l)
  | [] => .nil
  | z :: l => insZ_sorted z (sortZ_sorted l)
theorem sort_eq {js is : List Int} (hp : js.Perm is) : js.mergeSort (fun x y => decide (x ≤ y)) = sortZ is := by
  refine List.Perm.eq_of_pairwise (le := fun a b => a ≤ b) (fun a b _ _ h1 h2 => by omega) ?_ (sortZ_sorted is) ((List.mergeSort_perm _ _).trans (hp.trans (sortZ_perm is).symm))
  have := List.pairwise_mergeSort (le := fun x y : Int => decide (x ≤ y)) (fun a b c h1 h2 => by simp at *; omega) (fun a b => by simp; omega) js
  exact this.imp fun h => of_decide_eq_true h

section
variable {w : World} {b : Nat} {vs : Array Value} {T : TypeId}
theorem sorted_world {off n : Nat} {zs : List Int} {os : Array Obj} (h : w.heap[b]? = some (.cells vs T (0, 0))) :
    Kept (fun b' _ => b' = b) w (grow (putRow (Value.int .i64) (Sort.ahead w n) b off zs.toArray) os) ∧
    (grow (putRow (Value.int .i64) (Sort.ahead w n) b off zs.toArray) os).heap[b]? = some (.cells (putCells (Value.int .i64) off zs.toArray vs) T (0, 0)) := by
  have hb := Aw.lt_of_heap h
  have hheap : (grow (putRow (Value.int .i64) (Sort.ahead w n) b off zs.toArray) os).heap = w.heap.modify b (onCells (putCells (Value.int .i64) off zs.toArray)) ++ os := rfl
  have hother : ∀ b', b' < w.heap.size → b' ≠ b → (grow (putRow (Value.int .i64) (Sort.ahead w n) b off zs.toArray) os).heap[b']? = w.heap[b']? := fun b' h1 h2 => by
    rw [hheap, Array.getElem?_append_left (by simpa using h1), Array.getElem?_modify, if_neg (fun e => h2 e.symm)]
  refine ⟨⟨rfl, rfl, rfl, ?_, fun b' h1 h2 => hother b' h1 fun e => h2 0 e, fun b' q h1 h2 => ?_⟩, ?_⟩
  · rw [hheap]; simp
  · unfold World.cell?; rw [hother b' h1 h2]
  · rw [hheap, Array.getElem?_append_left (by simpa using hb), Array.getElem?_modify, if_pos rfl, h]; rfl
theorem put_at {off : Nat} {zs : List Int} {i : Nat} {v : Value} (hv : vs[i]? = some v) : (putCells (Value.int .i64) off zs.toArray vs)[i]? = some (if off ≤ i ∧ i < off + zs.length then Value.int .i64 (zs.getD (i - off) 0) else v) := by
  unfold putCells
  rw [Array.getElem?_mapIdx, hv, Option.map_some]
  congr 1
  split <;> rename_i h
  · rw [if_pos (by simpa using h)]
    congr 1
    simp only [List.size_toArray] at h
    have : i - off < zs.length := by omega
    rw [getElem!_pos zs.toArray (i - off) (by simpa using this), List.getD_eq_getElem?_getD, List.getElem?_eq_getElem this]; rfl
  · rw [if_neg (by simpa using h)]
end

theorem xc_sort {n k : Nat} {full : Cp} {ob : List (Nat × Xo)} {T : TypeId} {is rest : List Int} (hl : is.length < 100000)
    (hx : ∀ (w : World) (E : Env), HeapRel E (fun n => n < k) ob w → ∃ js : List Int, js.Perm is ∧ (Xo.cells T (ints (js ++ rest))).rel E (fun n => n < k) n w) (hlook : ∃ x, Aw.look n ob = some x) (hne : is.length ≠ 0) :
    XC Tryz.prog (.fn 162) [.one (.sl n 0 is.length 1 full)] k ob [⟨[], (n, .cells T (ints (sortZ is ++ rest))) :: del n ob, k⟩] := by
  intro w E us hh hp
  obtain ⟨x, hlk⟩ := hlook
  obtain ⟨js, hperm, bk, o, vs, e1, e2, e3, e4, e5⟩ := hx w E hh
  have hlen := hperm.length_eq
  obtain ⟨u, rfl, hu⟩ : ∃ u, us = [u] ∧ (Xv.sl n 0 is.length 1 full).rel E (fun n => n < k) u := by
    obtain ⟨h1, h2⟩ := hp
    match us, h1 with
    | [u], _ => exact ⟨u, rfl, h2 0 _ u rfl rfl⟩
    | [], h1 => simp at h1
    | _ :: _ :: _, h1 => simp at h1
  obtain ⟨hn, bk', o', o2, cap, g1, rfl, g3, g4, g5, g6, g7, g8⟩ := hu
  rw [e1] at g1
  simp only [Value.pointer.injEq, Option.some.injEq, Addr.mk.injEq, and_true] at g1
  obtain ⟨rfl, rfl⟩ := g1
  have g3 : o2 = o := by rcases g3 with h | h <;> omega
  subst g3
  have hlt := Aw.lt_of_heap e2
  have hcell : ∀ j, j < js.length → vs[o2 + j]? = some (.int .i64 (js.getD j 0)) := fun j hj => by
    obtain ⟨v, hv, hr⟩ := e5 j (.int .i64 (js.getD j 0)) (by
      unfold ints
      rw [List.getElem?_map, List.getElem?_append_left hj, List.getD_eq_getElem?_getD, List.getElem?_eq_getElem hj]; rfl)
    rw [hv]; cases hr; rfl
  have hH : Holds (Value.int .i64) w bk o2 js.toArray := fun j hj => by
    simp only [List.size_toArray] at hj
    refine ⟨?_, ?_⟩
    · simp only [World.cell?, e2]
      rw [hcell j hj]
      rw [getElem!_pos js.toArray j (by simpa using hj), List.getD_eq_getElem?_getD, List.getElem?_eq_getElem hj]; rfl
    · simp [World.frozen?, e2]
  have hcall := Tryz.slices_Sort_int bk o2 cap js w hH hlt (by omega)
  rw [hlen] at hcall
  refine hcall.mono fun e w' ⟨he, nn, os, hw⟩ => ?_
  rw [sort_eq hperm] at hw
  have hsl : (sortZ is).length = is.length := (sortZ_perm is).length_eq
  have hsw := sorted_world (n := nn) (off := o2) (zs := sortZ is) (os := os) e2
  rw [← hw] at hsw
  obtain ⟨hk, hnew⟩ := hsw
  have hblk : E.blk n = some bk := by unfold Env.blk; rw [e1]
  have hold : ∀ m y, Aw.look m ((n, Xo.cells T (ints (sortZ is ++ rest))) :: del n ob) = some y → (m = n ∧ y = .cells T (ints (sortZ is ++ rest))) ∨ (m ≠ n ∧ Aw.look m ob = some y) := fun m y hy => by
    rw [Aw.look_cons] at hy
    by_cases e : m = n
    · rw [if_pos e] at hy; injection hy with hy; exact .inl ⟨e, hy.symm⟩
    · rw [if_neg e, look_del, if_neg e] at hy; exact .inr ⟨e, hy⟩
  have back : ∀ m y, Aw.look m ((n, Xo.cells T (ints (sortZ is ++ rest))) :: del n ob) = some y → ∃ z, Aw.look m ob = some z := fun m y hy => by
    rcases hold m y hy with ⟨rfl, _⟩ | ⟨_, h⟩
    · exact ⟨x, hlk⟩
    · exact ⟨y, h⟩
  refine ⟨_, List.mem_singleton.2 rfl, E, [], he, Nat.le_refl _, .refl _ _, ⟨rfl, fun i p v hp hv => by simp at hp⟩, ⟨fun m y hy => ?_, fun m m' y y' b hy hy' hb hb' => ?_, fun m y b hy hb => ?_, hh.glob.kept (S := fun b' => b' = bk) hk fun b h => by subst h; exact hh.lo n x _ hlk hblk⟩, hk.mono fun b' _ h => ⟨n, x, hlk, by rw [hblk, h]⟩, fun m y b hy hb => ?_⟩
  · rcases hold m y hy with ⟨rfl, rfl⟩ | ⟨hm, h⟩
    · refine ⟨hn, bk, o2, _, e1, hnew, ?_, ?_, fun i c hc => ?_⟩
      · unfold putCells; simpa using e3
      · simp only [ints, List.length_map, List.length_append] at e4 ⊢; omega
      · have hi : i < (ints (js ++ rest)).length := by
          have := (List.getElem?_eq_some_iff.1 hc).1
          simp only [ints, List.length_map, List.length_append] at this ⊢; omega
        obtain ⟨v, hv, hr⟩ := e5 i _ (List.getElem?_eq_getElem hi)
        refine ⟨_, put_at hv, ?_⟩
        unfold ints at hc
        rw [List.getElem?_map] at hc
        obtain ⟨z, hz, rfl⟩ := Option.map_eq_some_iff.1 hc
        rcases Nat.lt_or_ge i is.length with h | h
        · rw [if_pos (by omega), Nat.add_sub_cancel_left]
          rw [List.getElem?_append_left (by omega)] at hz
          rw [List.getD_eq_getElem?_getD, hz]; rfl
        · rw [if_neg (by omega)]
          have hji : (ints (js ++ rest))[i]? = some (.int .i64 z) := by
            unfold ints; rw [List.getElem?_map, List.getElem?_append_right (by omega)]
            rw [List.getElem?_append_right (by omega)] at hz
            rw [hlen, ← hsl, hz]; rfl
          rw [List.getElem?_eq_getElem hi] at hji
          injection hji with hji
          rw [hji] at hr; exact hr
    · have h0 := hh.rel m y h
      refine ⟨h0.1, Xo.mono h0.1 h0.2 (.refl _ _) (fun _ h => h) fun b hb => hk.blk b (Xo.lt h0.2 hb) fun _ e => hm (hh.inj m n y x b h hlk hb (by rw [hblk, e]))⟩
  · obtain ⟨z, hz⟩ := back m y hy; obtain ⟨z', hz'⟩ := back m' y' hy'; exact hh.inj m m' z z' b hz hz' hb hb'
  · obtain ⟨z, hz⟩ := back m y hy; exact hh.lo m z b hz hb
  · obtain ⟨z, hz⟩ := back m y hy; exact .inl ⟨m, z, hz, hb⟩

def sortOb (n len : Nat) (ob : List (Nat × Xo)) : Option (TypeId × List Int × List Int) := match Aw.look n ob with
  | some (.bag T is rest) => bif is.length.beq len then some (T, is, rest) else none
  | some (.cells T cs) => match unInts cs with
    | some l => bif (l.take len).length.beq len then some (T, l.take len, l.drop len) else none
    | none => none
  | _ => none
theorem sortOb_ok {n len : Nat} {ob : List (Nat × Xo)} {T : TypeId} {is rest : List Int} (h : sortOb n len ob = some (T, is, rest)) : is.length = len ∧ (∃ x, Aw.look n ob = some x) ∧
    ∀ (w : World) (E : Env) (k : Nat), HeapRel E (fun n => n < k) ob w → ∃ js : List Int, js.Perm is ∧ (Xo.cells T (ints (js ++ rest))).rel E (fun n => n < k) n w := by
  unfold sortOb at h
  split at h
  · rename_i T' is' rest' hl
    cases hb : is'.length.beq len with
    | false => rw [hb, cond_false] at h; cases h
    | true =>
      rw [hb, cond_true] at h
      simp only [Option.some.injEq, Prod.mk.injEq] at h
      obtain ⟨rfl, rfl, rfl⟩ := h
      exact ⟨Nat.eq_of_beq_eq_true hb, ⟨_, hl⟩, fun w E k hh => bag_cells (hh.rel _ _ hl).2⟩
  · rename_i T' cs hl
    split at h
    rotate_left; · cases h
    rename_i l hu
    cases hb : (l.take len).length.beq len with
    | false => rw [hb, cond_false] at h; cases h
    | true =>
      rw [hb, cond_true] at h
      simp only [Option.some.injEq, Prod.mk.injEq] at h
      obtain ⟨rfl, rfl, rfl⟩ := h
      refine ⟨Nat.eq_of_beq_eq_true hb, ⟨_, hl⟩, fun w E k hh => ⟨l.take len, .refl _, ?_⟩⟩
      rw [List.take_append_drop, ← unInts_ok hu]
      exact (hh.rel _ _ hl).2
  · cases h

def sortE (args : List Xp) (k : Nat) (ob : List (Nat × Xo)) : Option (List Out) := match args with
  | [.one (.sl n 0 len 1 full)] => match sortOb n len ob with
    | some (T, is, rest) => bif is.length.blt 100000 && !len.beq 0 then some [⟨[], (n, .cells T (ints (sortZ is ++ rest))) :: del n ob, k⟩] else none
    | none => none
  | _ => none
def extS : Ext := fun c args k ob => match c with
  | .rd _ => none
  | .fn f => bif f.beq 162 then sortE args k ob else extF (.fn f) args k ob
theorem extS_ok : CallOK Tryz.prog extS := by
  intro c args k ob outs h
  unfold extS at h
  split at h
  · cases h
  rename_i f
  cases h1 : f.beq 162 with
  | false => rw [h1, cond_false] at h; exact extF_ok _ _ _ _ _ h
  | true =>
    rw [h1, cond_true] at h
    have := Nat.eq_of_beq_eq_true h1; subst this
    unfold sortE at h
    split at h
    rotate_left; · cases h
    rename_i n len full
    split at h
    rotate_left; · cases h
    rename_i T is rest hs
    cases hb : is.length.blt 100000 && !len.beq 0 with
    | false => rw [hb, cond_false] at h; cases h
    | true =>
      rw [hb, cond_true] at h; injection h with h; subst h
      obtain ⟨e1, e2, e3⟩ := sortOb_ok hs
      subst e1
      simp only [Bool.and_eq_true] at hb
      exact xc_sort (by simpa [Nat.blt_eq] using hb.1) (fun w E hh => e3 w E k hh) e2 fun e => by rw [e] at hb; simp at hb
end -- nc
end Go.Proofs.YtgjbehfdjnekdaaGreatDoor.Xc
end
section
/- A closed run: one call, by those that it makes. -/
namespace Go.Proofs.YtgjbehfdjnekdaaGreatDoor.Xc
noncomputable section
open Go.RowKit
def Ent.OK (e : Ent) : Prop := XC Tryz.prog e.f e.args e.k e.ob e.outs
theorem tnil : TblOK Tryz.prog [] := fun e h => by simp at h
theorem tcons {e : Ent} {l : List Ent} (h : e.OK) (hl : TblOK Tryz.prog l) : TblOK Tryz.prog (e :: l) := fun x hx => by
  rcases List.mem_cons.1 hx with rfl | hx
  · exact h
  · exact hl x hx
theorem one_ok {e : Ent} (l : List Ent) (hl : TblOK Tryz.prog l) (h : checkAll tab extS 10000 12 l [e] = true) : e.OK :=
  checkAll_ok mixed tab_ok extS_ok hl h e (by simp)
end -- nc
end Go.Proofs.YtgjbehfdjnekdaaGreatDoor.Xc
end
section
/- A closed run: the calls 0 .. 29, each by those that it makes. PRINTED BY genents.py. -/
set_option maxRecDepth 100000
set_option linter.all false
namespace Go.Proofs.YtgjbehfdjnekdaaGreatDoor.Xc
noncomputable section
open Go.RowKit

def n0 : Ent := ⟨.fn 90, [.one (.str [118, 49]), .one (.str [118])], 0, [], [⟨[.one (.bool true)], [], 0⟩]⟩
theorem t0 : n0.OK := one_ok [] tnil (by kernel_rfl)
def n1 : Ent := ⟨.fn 265, [.one (.str [118, 49]), .one (.str [118])], 0, [], [⟨[.one (.str [49]), .one (.bool true)], [], 0⟩]⟩
theorem t1 : n1.OK := one_ok [n0] (tcons t0 tnil) (by kernel_rfl)
def n2 : Ent := ⟨.fn 198, [.one (.str [118, 49]), .one (.str [118])], 0, [], [⟨[.one (.str [49]), .one (.bool true)], [], 0⟩]⟩
theorem t2 : n2.OK := one_ok [n1] (tcons t1 tnil) (by kernel_rfl)
def n3 : Ent := ⟨.fn 129, [.one (.int .u8 49)], 0, [], [⟨[.one (.bool true)], [], 0⟩]⟩
theorem t3 : n3.OK := one_ok [] tnil (by kernel_rfl)
def n4 : Ent := ⟨.fn 126, [.one (.str [49]), .one (.fn0 129)], 0, [], [⟨[.one (.bool true)], [], 0⟩]⟩
theorem t4 : n4.OK := one_ok [n3] (tcons t3 tnil) (by kernel_rfl)
def n5 : Ent := ⟨.fn 124, [.one (.str [118, 49])], 0, [], [⟨[.one (.int .i64 1), .one (.bool true)], [], 0⟩]⟩
theorem t5 : n5.OK := one_ok [n4, n2] (tcons t4 (tcons t2 tnil)) (by kernel_rfl)
def n6 : Ent := ⟨.fn 128, [.one (.int .u8 97)], 0, [], [⟨[.one (.bool true)], [], 0⟩]⟩
theorem t6 : n6.OK := one_ok [] tnil (by kernel_rfl)
def n7 : Ent := ⟨.fn 199, [.one (.int .u8 97)], 0, [], [⟨[.one (.bool true)], [], 0⟩]⟩
theorem t7 : n7.OK := one_ok [n6] (tcons t6 tnil) (by kernel_rfl)
def n8 : Ent := ⟨.fn 126, [.one (.str [97]), .one (.fn0 199)], 0, [], [⟨[.one (.bool true)], [], 0⟩]⟩
theorem t8 : n8.OK := one_ok [n7] (tcons t7 tnil) (by kernel_rfl)
def n9 : Ent := ⟨.fn 200, [.one (.str [97])], 0, [], [⟨[.one (.bool false)], [], 0⟩]⟩
theorem t9 : n9.OK := one_ok [] tnil (by kernel_rfl)
def n10 : Ent := ⟨.fn 125, [.one (.str [97])], 0, [], [⟨[.one (.bool true)], [], 0⟩]⟩
theorem t10 : n10.OK := one_ok [n9, n8, n6] (tcons t9 (tcons t8 (tcons t6 tnil))) (by kernel_rfl)
def n11 : Ent := ⟨.fn 127, [.one (.int .u8 97)], 0, [], [⟨[.one (.bool true)], [], 0⟩]⟩
theorem t11 : n11.OK := one_ok [n6] (tcons t6 tnil) (by kernel_rfl)
def n12 : Ent := ⟨.fn 126, [.one (.str [97]), .one (.fn0 127)], 0, [], [⟨[.one (.bool true)], [], 0⟩]⟩
theorem t12 : n12.OK := one_ok [n11] (tcons t11 tnil) (by kernel_rfl)
def n13 : Ent := ⟨.fn 128, [.one (.int .u8 118)], 0, [], [⟨[.one (.bool true)], [], 0⟩]⟩
theorem t13 : n13.OK := one_ok [] tnil (by kernel_rfl)
def n14 : Ent := ⟨.fn 199, [.one (.int .u8 118)], 0, [], [⟨[.one (.bool true)], [], 0⟩]⟩
theorem t14 : n14.OK := one_ok [n13] (tcons t13 tnil) (by kernel_rfl)
def n15 : Ent := ⟨.fn 128, [.one (.int .u8 49)], 0, [], [⟨[.one (.bool false)], [], 0⟩]⟩
theorem t15 : n15.OK := one_ok [] tnil (by kernel_rfl)
def n16 : Ent := ⟨.fn 266, [.one (.int .u8 49)], 0, [], [⟨[.one (.bool false)], [], 0⟩]⟩
theorem t16 : n16.OK := one_ok [] tnil (by kernel_rfl)
def n17 : Ent := ⟨.fn 199, [.one (.int .u8 49)], 0, [], [⟨[.one (.bool true)], [], 0⟩]⟩
theorem t17 : n17.OK := one_ok [n3, n16, n15] (tcons t3 (tcons t16 (tcons t15 tnil))) (by kernel_rfl)
def n18 : Ent := ⟨.fn 126, [.one (.str [118, 49]), .one (.fn0 199)], 0, [], [⟨[.one (.bool true)], [], 0⟩]⟩
theorem t18 : n18.OK := one_ok [n17, n14] (tcons t17 (tcons t14 tnil)) (by kernel_rfl)
def n19 : Ent := ⟨.fn 200, [.one (.str [118, 49])], 0, [], [⟨[.one (.bool false)], [], 0⟩]⟩
theorem t19 : n19.OK := one_ok [] tnil (by kernel_rfl)
def n20 : Ent := ⟨.fn 125, [.one (.str [118, 49])], 0, [], [⟨[.one (.bool true)], [], 0⟩]⟩
theorem t20 : n20.OK := one_ok [n19, n18, n13] (tcons t19 (tcons t18 (tcons t13 tnil))) (by kernel_rfl)
def n21 : Ent := ⟨.fn 127, [.one (.int .u8 118)], 0, [], [⟨[.one (.bool true)], [], 0⟩]⟩
theorem t21 : n21.OK := one_ok [n13] (tcons t13 tnil) (by kernel_rfl)
def n22 : Ent := ⟨.fn 127, [.one (.int .u8 49)], 0, [], [⟨[.one (.bool true)], [], 0⟩]⟩
theorem t22 : n22.OK := one_ok [n3, n15] (tcons t3 (tcons t15 tnil)) (by kernel_rfl)
def n23 : Ent := ⟨.fn 126, [.one (.str [118, 49]), .one (.fn0 127)], 0, [], [⟨[.one (.bool true)], [], 0⟩]⟩
theorem t23 : n23.OK := one_ok [n22, n21] (tcons t22 (tcons t21 tnil)) (by kernel_rfl)
def n24 : Ent := ⟨.fn 73, [.one (.str [97, 47, 118, 49])], 0, [], [⟨[.one (.int .i64 1), .one (.int .i64 0)], [], 0⟩]⟩
theorem t24 : n24.OK := one_ok [n23, n20, n12, n10, n5] (tcons t23 (tcons t20 (tcons t12 (tcons t10 (tcons t5 tnil))))) (by kernel_rfl)
def n25 : Ent := ⟨.fn 74, [.one (.str [97, 47, 118, 49])], 0, [], [⟨[.one (.bool true)], [], 0⟩]⟩
theorem t25 : n25.OK := one_ok [n24] (tcons t24 tnil) (by kernel_rfl)
def n26 : Ent := ⟨.fn 93, [.one (.str [97, 47, 118, 49]), .one (.int .u8 47)], 0, [], [⟨[.one (.int .i64 1)], [], 0⟩]⟩
theorem t26 : n26.OK := one_ok [] tnil (by kernel_rfl)
def n27 : Ent := ⟨.fn 41, [.one (.str [97, 47, 118, 49]), .one (.str [47])], 0, [], [⟨[.one (.int .i64 1)], [], 0⟩]⟩
theorem t27 : n27.OK := one_ok [n26] (tcons t26 tnil) (by kernel_rfl)
def n28 : Ent := ⟨.fn 32, [.one (.str [97, 47, 118, 49])], 0, [], [⟨[.one (.str [97]), .one (.int .i64 1), .one (.int .i64 0)], [], 0⟩]⟩
theorem t28 : n28.OK := one_ok [n27, n25, n24] (tcons t27 (tcons t25 (tcons t24 tnil))) (by kernel_rfl)
def n29 : Ent := ⟨.fn 132, [.agg [.int .i64 1, .int .i64 0, .int .i64 0]], 0, [], [⟨[.agg [.int .i64 1, .int .i64 0, .int .i64 0]], [], 0⟩]⟩
theorem t29 : n29.OK := one_ok [] tnil (by kernel_rfl)
end -- nc
end Go.Proofs.YtgjbehfdjnekdaaGreatDoor.Xc
end
section
/- A closed run: the calls 30 .. 59, each by those that it makes. PRINTED BY genents.py. -/
set_option maxRecDepth 100000
set_option linter.all false
namespace Go.Proofs.YtgjbehfdjnekdaaGreatDoor.Xc
noncomputable section
open Go.RowKit

def n30 : Ent := ⟨.fn 131, [.agg [.int .i64 1, .int .i64 0, .int .i64 0]], 0, [], [⟨[.one (.bool true)], [], 0⟩]⟩
theorem t30 : n30.OK := one_ok [n29] (tcons t29 tnil) (by kernel_rfl)
def n31 : Ent := ⟨.fn 128, [.one (.int .u8 98)], 0, [], [⟨[.one (.bool true)], [], 0⟩]⟩
theorem t31 : n31.OK := one_ok [] tnil (by kernel_rfl)
def n32 : Ent := ⟨.fn 199, [.one (.int .u8 98)], 0, [], [⟨[.one (.bool true)], [], 0⟩]⟩
theorem t32 : n32.OK := one_ok [n31] (tcons t31 tnil) (by kernel_rfl)
def n33 : Ent := ⟨.fn 126, [.one (.str [98]), .one (.fn0 199)], 0, [], [⟨[.one (.bool true)], [], 0⟩]⟩
theorem t33 : n33.OK := one_ok [n32] (tcons t32 tnil) (by kernel_rfl)
def n34 : Ent := ⟨.fn 200, [.one (.str [98])], 0, [], [⟨[.one (.bool false)], [], 0⟩]⟩
theorem t34 : n34.OK := one_ok [] tnil (by kernel_rfl)
def n35 : Ent := ⟨.fn 125, [.one (.str [98])], 0, [], [⟨[.one (.bool true)], [], 0⟩]⟩
theorem t35 : n35.OK := one_ok [n34, n33, n31] (tcons t34 (tcons t33 (tcons t31 tnil))) (by kernel_rfl)
def n36 : Ent := ⟨.fn 127, [.one (.int .u8 98)], 0, [], [⟨[.one (.bool true)], [], 0⟩]⟩
theorem t36 : n36.OK := one_ok [n31] (tcons t31 tnil) (by kernel_rfl)
def n37 : Ent := ⟨.fn 126, [.one (.str [98]), .one (.fn0 127)], 0, [], [⟨[.one (.bool true)], [], 0⟩]⟩
theorem t37 : n37.OK := one_ok [n36] (tcons t36 tnil) (by kernel_rfl)
def n38 : Ent := ⟨.fn 73, [.one (.str [98, 47, 118, 49])], 0, [], [⟨[.one (.int .i64 1), .one (.int .i64 0)], [], 0⟩]⟩
theorem t38 : n38.OK := one_ok [n23, n20, n37, n35, n5] (tcons t23 (tcons t20 (tcons t37 (tcons t35 (tcons t5 tnil))))) (by kernel_rfl)
def n39 : Ent := ⟨.fn 74, [.one (.str [98, 47, 118, 49])], 0, [], [⟨[.one (.bool true)], [], 0⟩]⟩
theorem t39 : n39.OK := one_ok [n38] (tcons t38 tnil) (by kernel_rfl)
def n40 : Ent := ⟨.fn 93, [.one (.str [98, 47, 118, 49]), .one (.int .u8 47)], 0, [], [⟨[.one (.int .i64 1)], [], 0⟩]⟩
theorem t40 : n40.OK := one_ok [] tnil (by kernel_rfl)
def n41 : Ent := ⟨.fn 41, [.one (.str [98, 47, 118, 49]), .one (.str [47])], 0, [], [⟨[.one (.int .i64 1)], [], 0⟩]⟩
theorem t41 : n41.OK := one_ok [n40] (tcons t40 tnil) (by kernel_rfl)
def n42 : Ent := ⟨.fn 32, [.one (.str [98, 47, 118, 49])], 0, [], [⟨[.one (.str [98]), .one (.int .i64 1), .one (.int .i64 0)], [], 0⟩]⟩
theorem t42 : n42.OK := one_ok [n41, n39, n38] (tcons t41 (tcons t39 (tcons t38 tnil))) (by kernel_rfl)
def n43 : Ent := ⟨.fn 195, [.one (.int .u64 1)], 0, [], [⟨[.one (.int .i64 1)], [], 0⟩]⟩
theorem t43 : n43.OK := one_ok [] tnil (by kernel_rfl)
def n44 : Ent := ⟨.fn 121, [.one (.int .u64 1)], 0, [], [⟨[.one (.int .i64 1)], [], 0⟩]⟩
theorem t44 : n44.OK := one_ok [n43] (tcons t43 tnil) (by kernel_rfl)
def n45 : Ent := ⟨.fn 309, [.one (.sl 0 0 1 2 .any), .one (.int .i64 0), .one (.int .i64 1), .one (.fn0 185)], 1, [(0, .cells 85 [.int .i64 2000, .int .i64 1000000])], [⟨[], [(0, .cells 85 [.int .i64 2000, .int .i64 1000000])], 1⟩]⟩
theorem t45 : n45.OK := one_ok [] tnil (by kernel_rfl)
def n46 : Ent := ⟨.fn 257, [.one (.sl 0 0 1 2 .any), .one (.int .i64 0), .one (.int .i64 1), .one (.int .i64 1), .one (.fn0 185)], 1, [(0, .cells 85 [.int .i64 2000, .int .i64 1000000])], [⟨[], [(0, .cells 85 [.int .i64 2000, .int .i64 1000000])], 1⟩]⟩
theorem t46 : n46.OK := one_ok [n45] (tcons t45 tnil) (by kernel_rfl)
def n47 : Ent := ⟨.fn 184, [.one (.sl 0 0 1 2 .any), .one (.fn0 185)], 1, [(0, .cells 85 [.int .i64 2000, .int .i64 1000000])], [⟨[], [(0, .cells 85 [.int .i64 2000, .int .i64 1000000])], 1⟩]⟩
theorem t47 : n47.OK := one_ok [n46, n44] (tcons t46 (tcons t44 tnil)) (by kernel_rfl)
def n48 : Ent := ⟨.fn 119, [.one (.sl 0 0 1 2 .full)], 1, [(0, .cells 85 [.int .i64 2000, .int .i64 1000000])], [⟨[.one (.sl 1 0 1 2 .full)], [(0, .cells 85 [.int .i64 2000, .int .i64 1000000]), (1, .cells 85 [.int .i64 2000, .int .i64 1000000])], 2⟩]⟩
theorem t48 : n48.OK := one_ok [n47] (tcons t47 tnil) (by kernel_rfl)
def n49 : Ent := ⟨.fn 248, [.one (.sl 0 0 1 2 .full), .one (.sl 1 0 1 2 .full)], 2, [(0, .cells 85 [.int .i64 2000, .int .i64 1000000]), (1, .cells 85 [.int .i64 2000, .int .i64 1000000])], [⟨[.one (.bool true)], [(0, .cells 85 [.int .i64 2000, .int .i64 1000000]), (1, .cells 85 [.int .i64 2000, .int .i64 1000000])], 2⟩]⟩
theorem t49 : n49.OK := one_ok [] tnil (by kernel_rfl)
def n50 : Ent := ⟨.fn 181, [.agg [.str [98, 47, 118, 49], .sl 0 0 1 2 .full], .one (.nilp)], 1, [(0, .cells 85 [.int .i64 2000, .int .i64 1000000])], [⟨[.one (.int .i64 0)], [(0, .cells 85 [.int .i64 2000, .int .i64 1000000])], 1⟩]⟩
theorem t50 : n50.OK := one_ok [n49, n48, n42] (tcons t49 (tcons t48 (tcons t42 tnil))) (by kernel_rfl)
def n51 : Ent := ⟨.fn 116, [.one (.sl 0 0 1 2 .full)], 2, [(0, .cells 87 [.str [98, 47, 118, 49], .sl 1 0 1 2 .full]), (1, .cells 85 [.int .i64 2000, .int .i64 1000000])], [⟨[.one (.int .i64 0)], [(0, .cells 87 [.str [98, 47, 118, 49], .sl 1 0 1 2 .full]), (1, .cells 85 [.int .i64 2000, .int .i64 1000000])], 2⟩]⟩
theorem t51 : n51.OK := one_ok [n50] (tcons t50 tnil) (by kernel_rfl)
def n52 : Ent := ⟨.fn 178, [.agg [.str [97, 47, 118, 49], .int .i64 1, .int .i64 0, .int .i64 0, .sl 0 0 1 2 .full, .str [], .str [], .str [], .bool false]], 2, [(0, .cells 87 [.str [98, 47, 118, 49], .sl 1 0 1 2 .full]), (1, .cells 85 [.int .i64 2000, .int .i64 1000000])], [⟨[.one (.int .i64 0)], [(0, .cells 87 [.str [98, 47, 118, 49], .sl 1 0 1 2 .full]), (1, .cells 85 [.int .i64 2000, .int .i64 1000000])], 2⟩]⟩
theorem t52 : n52.OK := one_ok [n51, n30, n28] (tcons t51 (tcons t30 (tcons t28 tnil))) (by kernel_rfl)
def n53 : Ent := ⟨.fn 116, [.one (.nils)], 0, [], [⟨[.one (.int .i64 0)], [], 0⟩]⟩
theorem t53 : n53.OK := one_ok [] tnil (by kernel_rfl)
def n54 : Ent := ⟨.fn 178, [.agg [.str [98, 47, 118, 49], .int .i64 1, .int .i64 0, .int .i64 0, .nils, .str [], .str [], .str [], .bool false]], 0, [], [⟨[.one (.int .i64 0)], [], 0⟩]⟩
theorem t54 : n54.OK := one_ok [n53, n30, n42] (tcons t53 (tcons t30 (tcons t42 tnil))) (by kernel_rfl)
def n55 : Ent := ⟨.fn 179, [.agg [.str [97, 47, 118, 49], .int .i64 1, .int .i64 0, .int .i64 0, .sl 0 0 1 2 .full, .str [], .str [], .str [], .bool false]], 2, [(0, .cells 87 [.str [98, 47, 118, 49], .sl 1 0 1 2 .full]), (1, .cells 85 [.int .i64 2000, .int .i64 1000000])], [⟨[.agg [.str [97, 47, 118, 49], .int .i64 1, .int .i64 0, .int .i64 0]], [(0, .cells 87 [.str [98, 47, 118, 49], .sl 1 0 1 2 .full]), (1, .cells 85 [.int .i64 2000, .int .i64 1000000])], 2⟩]⟩
theorem t55 : n55.OK := one_ok [] tnil (by kernel_rfl)
def n56 : Ent := ⟨.fn 179, [.agg [.str [98, 47, 118, 49], .int .i64 1, .int .i64 0, .int .i64 0, .nils, .str [], .str [], .str [], .bool false]], 0, [], [⟨[.agg [.str [98, 47, 118, 49], .int .i64 1, .int .i64 0, .int .i64 0]], [], 0⟩]⟩
theorem t56 : n56.OK := one_ok [] tnil (by kernel_rfl)
def n57 : Ent := ⟨.fn 301, [.one (.str [97, 47, 118, 49])], 0, [], [⟨[.one (.bool false)], [], 0⟩]⟩
theorem t57 : n57.OK := one_ok [] tnil (by kernel_rfl)
def n58 : Ent := ⟨.fn 301, [.one (.str [98, 47, 118, 49])], 0, [], [⟨[.one (.bool false)], [], 0⟩]⟩
theorem t58 : n58.OK := one_ok [] tnil (by kernel_rfl)
def n59 : Ent := ⟨.fn 246, [.one (.str [97, 47, 118, 49]), .one (.str [98, 47, 118, 49])], 0, [], [⟨[.one (.int .i64 (-1))], [], 0⟩]⟩
theorem t59 : n59.OK := one_ok [n58, n57] (tcons t58 (tcons t57 tnil)) (by kernel_rfl)
end -- nc
end Go.Proofs.YtgjbehfdjnekdaaGreatDoor.Xc
end
section
/- A closed run: the calls 60 .. 89, each by those that it makes. PRINTED BY genents.py. -/
set_option maxRecDepth 100000
set_option linter.all false
namespace Go.Proofs.YtgjbehfdjnekdaaGreatDoor.Xc
noncomputable section
open Go.RowKit

def n60 : Ent := ⟨.fn 329, [.one (.int .i64 1)], 0, [], [⟨[.one (.bool false)], [], 0⟩]⟩
theorem t60 : n60.OK := one_ok [] tnil (by kernel_rfl)
def n61 : Ent := ⟨.fn 302, [.one (.int .i64 1), .one (.int .i64 1)], 0, [], [⟨[.one (.int .i64 0)], [], 0⟩]⟩
theorem t61 : n61.OK := one_ok [n60] (tcons t60 tnil) (by kernel_rfl)
def n62 : Ent := ⟨.fn 329, [.one (.int .i64 0)], 0, [], [⟨[.one (.bool false)], [], 0⟩]⟩
theorem t62 : n62.OK := one_ok [] tnil (by kernel_rfl)
def n63 : Ent := ⟨.fn 302, [.one (.int .i64 0), .one (.int .i64 0)], 0, [], [⟨[.one (.int .i64 0)], [], 0⟩]⟩
theorem t63 : n63.OK := one_ok [n62] (tcons t62 tnil) (by kernel_rfl)
def n64 : Ent := ⟨.fn 247, [.agg [.int .i64 1, .int .i64 0, .int .i64 0], .agg [.int .i64 1, .int .i64 0, .int .i64 0]], 0, [], [⟨[.one (.int .i64 0)], [], 0⟩]⟩
theorem t64 : n64.OK := one_ok [n63, n61, n29] (tcons t63 (tcons t61 (tcons t29 tnil))) (by kernel_rfl)
def n65 : Ent := ⟨.fn 245, [.one (.sl 0 0 2 1 .full)], 1, [(0, .cells 3 [.int .i64 (-1), .int .i64 0])], [⟨[.one (.int .i64 (-1))], [(0, .cells 3 [.int .i64 (-1), .int .i64 0])], 1⟩]⟩
theorem t65 : n65.OK := one_ok [] tnil (by kernel_rfl)
def n66 : Ent := ⟨.fn 180, [.agg [.str [97, 47, 118, 49], .int .i64 1, .int .i64 0, .int .i64 0, .sl 0 0 1 2 .full, .str [], .str [], .str [], .bool false], .agg [.str [98, 47, 118, 49], .int .i64 1, .int .i64 0, .int .i64 0, .nils, .str [], .str [], .str [], .bool false]], 2, [(0, .cells 87 [.str [98, 47, 118, 49], .sl 1 0 1 2 .full]), (1, .cells 85 [.int .i64 2000, .int .i64 1000000])], [⟨[.one (.int .i64 (-1))], [(0, .cells 87 [.str [98, 47, 118, 49], .sl 1 0 1 2 .full]), (1, .cells 85 [.int .i64 2000, .int .i64 1000000])], 2⟩]⟩
theorem t66 : n66.OK := one_ok [n65, n64, n59] (tcons t65 (tcons t64 (tcons t59 tnil))) (by kernel_rfl)
def n67 : Ent := ⟨.fn 132, [.agg [.int .i64 1, .int .i64 1, .int .i64 0]], 0, [], [⟨[.agg [.int .i64 1, .int .i64 1, .int .i64 0]], [], 0⟩]⟩
theorem t67 : n67.OK := one_ok [] tnil (by kernel_rfl)
def n68 : Ent := ⟨.fn 131, [.agg [.int .i64 1, .int .i64 1, .int .i64 0]], 0, [], [⟨[.one (.bool true)], [], 0⟩]⟩
theorem t68 : n68.OK := one_ok [n67] (tcons t67 tnil) (by kernel_rfl)
def n69 : Ent := ⟨.fn 178, [.agg [.str [98, 47, 118, 49], .int .i64 1, .int .i64 1, .int .i64 0, .nils, .str [], .str [], .str [], .bool false]], 0, [], [⟨[.one (.int .i64 0)], [], 0⟩]⟩
theorem t69 : n69.OK := one_ok [n53, n68, n42] (tcons t53 (tcons t68 (tcons t42 tnil))) (by kernel_rfl)
def n70 : Ent := ⟨.fn 179, [.agg [.str [98, 47, 118, 49], .int .i64 1, .int .i64 1, .int .i64 0, .nils, .str [], .str [], .str [], .bool false]], 0, [], [⟨[.agg [.str [98, 47, 118, 49], .int .i64 1, .int .i64 1, .int .i64 0]], [], 0⟩]⟩
theorem t70 : n70.OK := one_ok [] tnil (by kernel_rfl)
def n71 : Ent := ⟨.fn 246, [.one (.str [98, 47, 118, 49]), .one (.str [98, 47, 118, 49])], 0, [], [⟨[.one (.int .i64 0)], [], 0⟩]⟩
theorem t71 : n71.OK := one_ok [n58] (tcons t58 tnil) (by kernel_rfl)
def n72 : Ent := ⟨.fn 302, [.one (.int .i64 0), .one (.int .i64 1)], 0, [], [⟨[.one (.int .i64 (-1))], [], 0⟩]⟩
theorem t72 : n72.OK := one_ok [n60, n62] (tcons t60 (tcons t62 tnil)) (by kernel_rfl)
def n73 : Ent := ⟨.fn 247, [.agg [.int .i64 1, .int .i64 0, .int .i64 0], .agg [.int .i64 1, .int .i64 1, .int .i64 0]], 0, [], [⟨[.one (.int .i64 (-1))], [], 0⟩]⟩
theorem t73 : n73.OK := one_ok [n72, n61, n67, n29] (tcons t72 (tcons t61 (tcons t67 (tcons t29 tnil)))) (by kernel_rfl)
def n74 : Ent := ⟨.fn 245, [.one (.sl 0 0 2 1 .full)], 1, [(0, .cells 3 [.int .i64 0, .int .i64 (-1)])], [⟨[.one (.int .i64 (-1))], [(0, .cells 3 [.int .i64 0, .int .i64 (-1)])], 1⟩]⟩
theorem t74 : n74.OK := one_ok [] tnil (by kernel_rfl)
def n75 : Ent := ⟨.fn 180, [.agg [.str [98, 47, 118, 49], .int .i64 1, .int .i64 0, .int .i64 0, .nils, .str [], .str [], .str [], .bool false], .agg [.str [98, 47, 118, 49], .int .i64 1, .int .i64 1, .int .i64 0, .nils, .str [], .str [], .str [], .bool false]], 0, [], [⟨[.one (.int .i64 (-1))], [], 0⟩]⟩
theorem t75 : n75.OK := one_ok [n74, n73, n71] (tcons t74 (tcons t73 (tcons t71 tnil))) (by kernel_rfl)
def n76 : Ent := ⟨.fn 115, [.agg [.sl 0 0 3 9 .full, .nils]], 3, [(0, .cells 89 [.str [97, 47, 118, 49], .int .i64 1, .int .i64 0, .int .i64 0, .sl 1 0 1 2 .full, .str [], .str [], .str [], .bool false, .str [98, 47, 118, 49], .int .i64 1, .int .i64 0, .int .i64 0, .nils, .str [], .str [], .str [], .bool false, .str [98, 47, 118, 49], .int .i64 1, .int .i64 1, .int .i64 0, .nils, .str [], .str [], .str [], .bool false]), (1, .cells 87 [.str [98, 47, 118, 49], .sl 2 0 1 2 .full]), (2, .cells 85 [.int .i64 2000, .int .i64 1000000])], [⟨[.one (.int .i64 0)], [(0, .cells 89 [.str [97, 47, 118, 49], .int .i64 1, .int .i64 0, .int .i64 0, .sl 1 0 1 2 .full, .str [], .str [], .str [], .bool false, .str [98, 47, 118, 49], .int .i64 1, .int .i64 0, .int .i64 0, .nils, .str [], .str [], .str [], .bool false, .str [98, 47, 118, 49], .int .i64 1, .int .i64 1, .int .i64 0, .nils, .str [], .str [], .str [], .bool false]), (1, .cells 87 [.str [98, 47, 118, 49], .sl 2 0 1 2 .full]), (2, .cells 85 [.int .i64 2000, .int .i64 1000000])], 3⟩]⟩
theorem t76 : n76.OK := one_ok [n75, n70, n56, n69, n66, n55, n54, n52] (tcons t75 (tcons t70 (tcons t56 (tcons t69 (tcons t66 (tcons t55 (tcons t54 (tcons t52 tnil)))))))) (by kernel_rfl)
def n77 : Ent := ⟨.fn 309, [.one (.sl 0 0 1 2 .any), .one (.int .i64 0), .one (.int .i64 1), .one (.fn0 185)], 1, [(0, .cells 85 [.int .i64 0, .int .i64 1000000])], [⟨[], [(0, .cells 85 [.int .i64 0, .int .i64 1000000])], 1⟩]⟩
theorem t77 : n77.OK := one_ok [] tnil (by kernel_rfl)
def n78 : Ent := ⟨.fn 257, [.one (.sl 0 0 1 2 .any), .one (.int .i64 0), .one (.int .i64 1), .one (.int .i64 1), .one (.fn0 185)], 1, [(0, .cells 85 [.int .i64 0, .int .i64 1000000])], [⟨[], [(0, .cells 85 [.int .i64 0, .int .i64 1000000])], 1⟩]⟩
theorem t78 : n78.OK := one_ok [n77] (tcons t77 tnil) (by kernel_rfl)
def n79 : Ent := ⟨.fn 184, [.one (.sl 0 0 1 2 .any), .one (.fn0 185)], 1, [(0, .cells 85 [.int .i64 0, .int .i64 1000000])], [⟨[], [(0, .cells 85 [.int .i64 0, .int .i64 1000000])], 1⟩]⟩
theorem t79 : n79.OK := one_ok [n78, n44] (tcons t78 (tcons t44 tnil)) (by kernel_rfl)
def n80 : Ent := ⟨.fn 119, [.one (.sl 0 0 1 2 .full)], 1, [(0, .cells 85 [.int .i64 0, .int .i64 1000000])], [⟨[.one (.sl 1 0 1 2 .full)], [(0, .cells 85 [.int .i64 0, .int .i64 1000000]), (1, .cells 85 [.int .i64 0, .int .i64 1000000])], 2⟩]⟩
theorem t80 : n80.OK := one_ok [n79] (tcons t79 tnil) (by kernel_rfl)
def n81 : Ent := ⟨.fn 248, [.one (.sl 0 0 1 2 .full), .one (.sl 1 0 1 2 .full)], 2, [(0, .cells 85 [.int .i64 0, .int .i64 1000000]), (1, .cells 85 [.int .i64 0, .int .i64 1000000])], [⟨[.one (.bool true)], [(0, .cells 85 [.int .i64 0, .int .i64 1000000]), (1, .cells 85 [.int .i64 0, .int .i64 1000000])], 2⟩]⟩
theorem t81 : n81.OK := one_ok [] tnil (by kernel_rfl)
def n82 : Ent := ⟨.fn 181, [.agg [.str [97, 47, 118, 49], .sl 0 0 1 2 .full], .one (.nilp)], 1, [(0, .cells 85 [.int .i64 0, .int .i64 1000000])], [⟨[.one (.int .i64 0)], [(0, .cells 85 [.int .i64 0, .int .i64 1000000])], 1⟩]⟩
theorem t82 : n82.OK := one_ok [n81, n80, n28] (tcons t81 (tcons t80 (tcons t28 tnil))) (by kernel_rfl)
def n83 : Ent := ⟨.fn 116, [.one (.sl 0 0 1 2 .full)], 2, [(0, .cells 87 [.str [97, 47, 118, 49], .sl 1 0 1 2 .full]), (1, .cells 85 [.int .i64 0, .int .i64 1000000])], [⟨[.one (.int .i64 0)], [(0, .cells 87 [.str [97, 47, 118, 49], .sl 1 0 1 2 .full]), (1, .cells 85 [.int .i64 0, .int .i64 1000000])], 2⟩]⟩
theorem t83 : n83.OK := one_ok [n82] (tcons t82 tnil) (by kernel_rfl)
def n84 : Ent := ⟨.fn 182, [], 0, [], [⟨[.agg [.fn0 249, .fn0 250, .fn0 251, .fn0 252, .fn0 253, .fn0 254, .fn0 255, .fn0 256]], [], 0⟩]⟩
theorem t84 : n84.OK := one_ok [] tnil (by kernel_rfl)
def n85 : Ent := ⟨.fn 249, [.agg [.int .i64 0, .str [], .int .i64 0, .int .i64 0, .int .i64 0, .int .i64 0]], 0, [], [⟨[.agg [.int .i64 0, .str [], .int .i64 0, .int .i64 0, .int .i64 0, .int .i64 0]], [], 0⟩]⟩
theorem t85 : n85.OK := one_ok [] tnil (by kernel_rfl)
def n86 : Ent := ⟨.fn 101, [.one (.int .i64 1)], 0, [], [⟨[.one (.bool false)], [], 0⟩]⟩
theorem t86 : n86.OK := one_ok [] tnil (by kernel_rfl)
def n87 : Ent := ⟨.fn 195, [.one (.int .u64 0)], 0, [], [⟨[.one (.int .i64 0)], [], 0⟩]⟩
theorem t87 : n87.OK := one_ok [] tnil (by kernel_rfl)
def n88 : Ent := ⟨.fn 121, [.one (.int .u64 0)], 0, [], [⟨[.one (.int .i64 0)], [], 0⟩]⟩
theorem t88 : n88.OK := one_ok [n87] (tcons t87 tnil) (by kernel_rfl)
def n89 : Ent := ⟨.fn 309, [.one (.nils), .one (.int .i64 0), .one (.int .i64 0), .one (.fn0 185)], 0, [], [⟨[], [], 0⟩]⟩
theorem t89 : n89.OK := one_ok [] tnil (by kernel_rfl)
end -- nc
end Go.Proofs.YtgjbehfdjnekdaaGreatDoor.Xc
end
