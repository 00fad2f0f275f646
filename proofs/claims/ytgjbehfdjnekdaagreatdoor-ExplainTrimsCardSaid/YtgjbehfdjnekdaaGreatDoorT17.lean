/- Parts of the proof of one statement: SyR, Xc6, Xc7. -/
import Derived.Deep.Slices
import Derived.OpenShut
import GoSem.ClaimJoined
import Derived.Test.YtgjbehfdjnekdaaGreatDoorT11
import Derived.Test.YtgjbehfdjnekdaaGreatDoorT16
set_option linter.all false
section
/- What an argument reads as: data of its type. -/
set_option linter.unusedVariables false
set_option linter.unusedSimpArgs false
namespace Go.Proofs.YtgjbehfdjnekdaaGreatDoor.Sy
open Go.RowKit
open Go.Proofs.YtgjbehfdjnekdaaGreatDoor.Aw (elsP CellsAt LEN)
open Go.Proofs.YtgjbehfdjnekdaaGreatDoor.Xc (Tab TabOK XT TyOK)
noncomputable section

def FitF (F : TypeId → List Sc → Prop) : List Field → List Sc → Prop
  | [], cs => cs = []
  | f :: fs, cs => ∃ p q, cs = p ++ q ∧ F f.type p ∧ FitF F fs q
/-- Cells of a type's kind. -/
def Fit (T : Tab) : Nat → TypeId → List Sc → Prop
  | 0, _, _ => False
  | d + 1, t, cs => match T.ty t with
    | some i => match i.desc with
      | .bool => ∃ b, cs = [.bool b]
      | .int k => ∃ n, cs = [.int k n] ∧ (Lit.int k n).wf = true
      | .string => ∃ s, cs = [.str s] ∧ s.length ≤ LEN
      | .slice e => match T.ty e with
        | some j => ∃ n f, cs = [.sl j.size n f] ∧ n ≤ LEN ∧ ∀ i, i < n → Fit T d e (f i)
        | none => False
      | .struct fs => FitF (Fit T d) fs.toList cs
      | _ => False
    | none => False
def contigF (T : Tab) : Nat → List Field → Option Nat
  | off, [] => some off
  | off, f :: fs => bif f.offset.beq off then match T.ty f.type with
    | some i => contigF T (off + i.size) fs
    | none => none
    else none
/-- The kinds of types that are read so. -/
def depT (T : Tab) : Nat → TypeId → Bool
  | 0, _ => false
  | d + 1, t => match T.ty t with
    | some i => match i.desc with
      | .bool => true
      | .int _ => true
      | .string => true
      | .slice e => match T.ty e with
        | some j => Nat.blt 0 j.size && Nat.blt 0 j.bytes && depT T d e
        | none => false
      | .struct fs => (match contigF T 0 fs.toList with
        | some n => n.beq i.size
        | none => false) && fs.toList.all fun f => depT T d f.type
      | _ => false
    | none => false

def RelL (w : World) (ss : List Sc) (cs : List Value) : Prop := ss.length = cs.length ∧ ∀ (i : Nat) (c : Sc) (v : Value), ss[i]? = some c → cs[i]? = some v → c.pred.p w (fun _ _ => False) v
theorem RelL.nil (w : World) : RelL w [] [] := ⟨rfl, fun i c v h => by simp at h⟩
theorem RelL.append {w : World} {s1 s2 : List Sc} {c1 c2 : List Value} (h1 : RelL w s1 c1) (h2 : RelL w s2 c2) : RelL w (s1 ++ s2) (c1 ++ c2) := by
  refine ⟨by rw [List.length_append, List.length_append, h1.1, h2.1], fun i c v hc hv => ?_⟩
  rcases Nat.lt_or_ge i s1.length with h | h
  · rw [List.getElem?_append_left h] at hc
    rw [List.getElem?_append_left (by rw [← h1.1]; exact h)] at hv
    exact h1.2 i c v hc hv
  · rw [List.getElem?_append_right h] at hc
    rw [List.getElem?_append_right (by rw [← h1.1]; exact h), ← h1.1] at hv
    exact h2.2 _ c v hc hv
theorem RelL.one {w : World} {c : Sc} {v : Value} (h : c.pred.p w (fun _ _ => False) v) : RelL w [c] [v] := by
  refine ⟨rfl, fun i c' v' hc hv => ?_⟩
  cases i with
  | zero => simp only [List.getElem?_cons_zero, Option.some.injEq] at hc hv; subst hc; subst hv; exact h
  | succ i => simp at hc

theorem cellsOf_ty {P : Program} {T : Tab} (hT : TabOK P T) {t : TypeId} {i : XT} (h : T.ty t = some i) : P.cellsOf t = i.size := by
  obtain ⟨z, _, _, _, _, hinfo⟩ := (hT.ty _ _ h).zero
  obtain ⟨inf, h1, h2⟩ := Option.map_eq_some_iff.1 hinfo
  simp only [Prod.mk.injEq] at h2
  unfold Program.cellsOf
  rw [h1]; exact h2.2.1

theorem bytesOf_ty {P : Program} {T : Tab} (hT : TabOK P T) {t : TypeId} {i : XT} (h : T.ty t = some i) : P.bytesOf t = i.bytes := by
  obtain ⟨z, _, _, _, _, hinfo⟩ := (hT.ty _ _ h).zero
  obtain ⟨inf, h1, h2⟩ := Option.map_eq_some_iff.1 hinfo
  simp only [Prod.mk.injEq] at h2
  unfold Program.bytesOf
  rw [h1]; exact h2.2.2
theorem weights_all {H : Type} {P : Program} {e : TypeId} {d : DataW H} {n : Nat} (h : n ∈ d.weights P e) : ∀ {ds : List (DataW H)}, d ∈ ds → n ∈ DataW.weightsAll P e ds
  | x :: ds, hd => by
    rw [DataW.weightsAll]
    rcases List.mem_cons.1 hd with rfl | hd
    · exact List.mem_append_left _ h
    · exact List.mem_append_right _ (weights_all h hd)
theorem weights_each {H : Type} {P : Program} {t : TypeId} {d : DataW H} {n : Nat} (h : n ∈ d.weights P t) : ∀ {ts : List TypeId} {ds : List (DataW H)} {i : Nat}, ts[i]? = some t → ds[i]? = some d → n ∈ DataW.weightsEach P ts ds
  | u :: ts, x :: ds, 0, ht, hd => by
    simp only [List.getElem?_cons_zero, Option.some.injEq] at ht hd
    subst ht; subst hd
    rw [DataW.weightsEach]
    exact List.mem_append_left _ h
  | u :: ts, x :: ds, i + 1, ht, hd => by
    rw [DataW.weightsEach]
    exact List.mem_append_right _ (weights_each h (by simpa using ht) (by simpa using hd))
  | [], ds, i, ht, hd => by simp at ht
  | u :: ts, [], i, ht, hd => by simp at hd

theorem choose_lt' {α : Type} [Inhabited α] {n : Nat} {p : Nat → α → Prop} (h : ∀ i, i < n → ∃ x, p i x) : ∃ f : Nat → α, ∀ i, i < n → p i (f i) := by
  refine ⟨fun i => if hi : i < n then Classical.choose (h i hi) else default, fun i hi => ?_⟩
  show p i (if hi : i < n then Classical.choose (h i hi) else default)
  rw [dif_pos hi]; exact Classical.choose_spec (h i hi)

section
variable {H : Type} {enc : TypeId × Value → H} {P : Program} {w : World} {base : Nat} {sp : Nat → Bool} {held : Bool} {T : Tab}
theorem reads (hT : TabOK P T) : ∀ (d fuel : Nat) (t : TypeId) (cs : List Value) (x : DataW H × List MemPlace), depT T d t = true → DataW.trod enc P w base sp held fuel t cs = some x → (∀ n ∈ x.1.weights P t, n ≤ reachBytes) → ∃ ss, Fit T d t ss ∧ RelL w ss cs
  | 0, fuel, t, cs, x, hd, h, hw => by cases hd
  | d + 1, fuel, t, cs, x, hd, h, hwt => by
    simp only [depT] at hd
    simp only [Fit]
    split at hd
    rotate_left; · cases hd
    rename_i i hi
    have hu := (hT.ty _ _ hi).und
    have hcells := cellsOf_ty hT hi
    split at hd
    · rename_i hdesc
      rw [hdesc] at hu
      obtain ⟨b, rfl, rfl⟩ := DataW.trod_bool hu h
      exact ⟨[.bool b], ⟨b, rfl⟩, .one rfl⟩
    · rename_i k hdesc
      rw [hdesc] at hu
      obtain ⟨n, rfl, rfl, hw⟩ := DataW.trod_int hu h
      exact ⟨[.int k n], ⟨n, rfl, hw⟩, .one rfl⟩
    · rename_i hdesc
      rw [hdesc] at hu
      obtain ⟨s, rfl, rfl, hs⟩ := DataW.trod_string hu h
      have hsl : s.data.toList.length ≤ reachBytes := hwt _ (by rw [DataW.weights]; exact List.mem_singleton.2 rfl)
      have hR : reachBytes ≤ LEN := by decide
      refine ⟨[.str s.data.toList], ⟨_, rfl, by omega⟩, .one ?_⟩
      show Value.string s = .string ⟨_⟩
      rw [ba_data]
    · rename_i e hdesc
      rw [hdesc] at hu
      split at hd
      rotate_left; · cases hd
      rename_i j hj
      simp only [Bool.and_eq_true] at hd
      obtain ⟨⟨hd1, hd3⟩, hd2⟩ := hd
      have h0 : 0 < j.size := Aw.nlt hd1
      have hby : 0 < j.bytes := Aw.nlt hd3
      have hbe := bytesOf_ty hT hj
      have hce := cellsOf_ty hT hj
      rcases Deep.open_slice hu h with ⟨rfl, rfl⟩ | ⟨a, len, cap, m, n, D, Pl, rfl, hb, hl, hm, hmm, rfl, hx⟩
      · exact ⟨[.sl j.size 0 fun _ => []], ⟨0, _, rfl, Nat.zero_le _, fun i hi => by omega⟩, .one ⟨by simp, .inl ⟨rfl, none, 0, rfl⟩⟩⟩
      · have hlm : len ≤ m := by rw [hmm]; split <;> omega
        have each : ∀ i, i < len → ∃ ss, Fit T d e ss ∧ ∃ cs', w.cells? base (a.add (i * j.size)) j.size = some cs' ∧ RelL w ss cs' := fun i hi => by
          obtain ⟨cs', h1, h2⟩ := hx i (by omega)
          rw [hce] at h1
          obtain ⟨ss, h3, h4⟩ := reads hT d n e cs' _ hd2 h2 fun q hq => hwt q (by
            simp only [DataW.weights, hu]
            exact List.mem_cons_of_mem _ (List.mem_append_left _ (weights_all hq (List.mem_map.2 ⟨i, List.mem_range.2 hi, rfl⟩))))
          exact ⟨ss, h3, cs', h1, h4⟩
        obtain ⟨f, hf⟩ := choose_lt' each
        have hwl : (len + (m - len)) * j.bytes ≤ reachBytes := hwt _ (by
          simp only [DataW.weights, hu, List.length_map, List.length_range, hbe]
          exact List.mem_cons_self)
        have hR : reachBytes ≤ LEN := by decide
        have hll : len ≤ LEN := by
          have : len * 1 ≤ (len + (m - len)) * j.bytes := Nat.mul_le_mul (by omega) hby
          omega
        refine ⟨[.sl j.size len f], ⟨len, f, rfl, hll, fun i hi => (hf i hi).1⟩, .one ?_⟩
        show (elsP j.size (els len f)).p w _ _
        refine ⟨by rw [els_length]; exact hll, ?_⟩
        rcases Nat.eq_zero_or_pos len with e0 | e0
        · subst e0
          exact .inl ⟨rfl, some a, cap, rfl⟩
        · obtain ⟨b, o, spot⟩ := a
          have hspot : spot = none := by
            obtain ⟨_, cs', h1, h2⟩ := hf 0 e0
            obtain ⟨_, hlen, hcell⟩ := World.cells?_some h1
            have h3 := hcell 0 h0
            rw [List.getElem?_eq_getElem (by omega)] at h3
            simpa [Addr.add] using World.cell?_spot h3
          subst hspot
          refine .inr ⟨b, o, cap, by rw [els_length], by rw [els_length]; exact hl, fun i ps hi => ?_⟩
          have hil : i < len := by
            rcases Nat.lt_or_ge i len with h | h
            · exact h
            · rw [List.getElem?_eq_none (by rw [els_length]; exact h)] at hi; cases hi
          rw [els_at hil] at hi; injection hi with hi; subst hi
          obtain ⟨_, cs', h1, h2⟩ := hf i hil
          obtain ⟨_, hlen, hcell⟩ := World.cells?_some h1
          refine ⟨by rw [predL_length, h2.1, hlen], fun q p hp => ?_⟩
          rw [predL_map, List.getElem?_map] at hp
          obtain ⟨c, hc, rfl⟩ := Option.map_eq_some_iff.1 hp
          have hq : q < cs'.length := by
            rw [← h2.1]
            rcases Nat.lt_or_ge q (f i).length with h | h
            · exact h
            · rw [List.getElem?_eq_none h] at hc; cases hc
          have h3 := hcell q (by omega)
          rw [Aw.add_add, Aw.add_add, List.getElem?_eq_getElem hq] at h3
          exact ⟨cs'[q], id, h3, h2.2 q c _ hc (List.getElem?_eq_getElem hq)⟩
    · rename_i fs hdesc
      rw [hdesc] at hu
      rw [Bool.and_eq_true, List.all_eq_true] at hd
      obtain ⟨hd1, hd2⟩ := hd
      obtain ⟨xs, n, _, rfl, hlen, hxl, hf⟩ := DataW.trod_struct hu h
      split at hd1
      rotate_left; · cases hd1
      rename_i tot htot
      have htot' := Nat.eq_of_beq_eq_true hd1
      rw [hcells, ← htot'] at hlen
      have key : ∀ (l : List Field) (k off : Nat), fs.toList.drop k = l → contigF T off l = some tot → ∃ ss, FitF (Fit T d) l ss ∧ RelL w ss (cs.drop off) := by
        intro l
        induction l with
        | nil =>
          intro k off _ hc
          simp only [contigF, Option.some.injEq] at hc
          subst hc
          refine ⟨[], rfl, ?_⟩
          rw [List.drop_eq_nil_of_le (by omega)]
          exact RelL.nil w
        | cons f l ih =>
          intro k off hl hc
          simp only [contigF] at hc
          cases hb : f.offset.beq off with
          | false => rw [hb, cond_false] at hc; cases hc
          | true =>
            rw [hb, cond_true] at hc
            have hoff := Nat.eq_of_beq_eq_true hb
            split at hc
            rotate_left; · cases hc
            rename_i j hj
            obtain ⟨h1, h2⟩ : fs.toList[k]? = some f ∧ fs.toList.drop (k + 1) = l := by
              have h1 : (fs.toList.drop k)[0]? = some f := by rw [hl]; rfl
              rw [List.getElem?_drop] at h1
              have h2 : (fs.toList.drop k).drop 1 = l := by rw [hl]; rfl
              rw [List.drop_drop] at h2
              exact ⟨by simpa using h1, h2⟩
            have hfk : fs[k]? = some f := by rw [← Array.getElem?_toList]; exact h1
            have hk : k < fs.size := (Array.getElem?_eq_some_iff.1 hfk).1
            have hr := hf k f hfk
            rw [hoff, cellsOf_ty hT hj, List.getElem?_eq_getElem (by omega)] at hr
            obtain ⟨sp', hp1, hp2⟩ := reads hT d n f.type _ _ (hd2 f (List.mem_of_getElem? h1)) hr fun q hq => hwt q (by
              simp only [DataW.weights, hu]
              exact weights_each (i := k) hq (by rw [List.getElem?_map, h1]; rfl) (by rw [List.getElem?_map, List.getElem?_eq_getElem (by omega)]; rfl))
            obtain ⟨sq, hq1, hq2⟩ := ih (k + 1) (off + j.size) h2 hc
            refine ⟨sp' ++ sq, ⟨sp', sq, rfl, hp1, hq1⟩, ?_⟩
            have := hp2.append hq2
            rw [← List.drop_drop, List.take_append_drop] at this
            exact this
      have := key fs.toList 0 0 rfl htot
      simpa using this
    · cases hd
end

theorem isDL_append : ∀ {a b : List Sc}, isDL a = true → isDL b = true → isDL (a ++ b) = true
  | [], b, _, h => h
  | c :: a, b, h1, h2 => by
    simp only [isDL, Bool.and_eq_true] at h1
    simp only [List.cons_append, isDL, Bool.and_eq_true]
    exact ⟨h1.1, isDL_append h1.2 h2⟩
theorem fit_isDL {T : Tab} : ∀ {d : Nat} {t : TypeId} {cs : List Sc}, Fit T d t cs → isDL cs = true
  | 0, t, cs, h => h.elim
  | d + 1, t, cs, h => by
    simp only [Fit] at h
    split at h
    rotate_left; · exact h.elim
    split at h
    · obtain ⟨b, rfl⟩ := h; rfl
    · obtain ⟨n, rfl, _⟩ := h; rfl
    · obtain ⟨s, rfl, _⟩ := h; rfl
    · split at h
      · obtain ⟨n, f, rfl, _⟩ := h; rfl
      · exact h.elim
    · rename_i fs _
      have key : ∀ (l : List Field) (cs : List Sc), FitF (Fit T d) l cs → isDL cs = true := by
        intro l
        induction l with
        | nil => intro cs h; have h : cs = [] := h; subst h; rfl
        | cons f l ih => intro cs ⟨p, q, e, h1, h2⟩; subst e; exact isDL_append (fit_isDL h1) (ih q h2)
      exact key _ _ h
    · exact h.elim

def isStr (T : Tab) (t : TypeId) : Bool := match T.ty t with
  | some i => match i.desc with
    | .struct _ => true
    | _ => false
  | none => false
/-- What an argument is. -/
def FitP (T : Tab) (d : Nat) (t : TypeId) (p : Sp) : Prop := match isStr T t with
  | true => ∃ cs, p = .agg cs ∧ Fit T d t cs
  | false => ∃ c, p = .one c ∧ Fit T d t [c]
def FitAll (T : Tab) (d : Nat) : List TypeId → List Sp → Prop
  | [], ps => ps = []
  | t :: ts, ps => ∃ p q, ps = p :: q ∧ FitP T d t p ∧ FitAll T d ts q

section
variable {H : Type} {enc : TypeId × Value → H} {P : Program} {w : World} {sp : Nat → Bool} {held : Bool} {T : Tab}
theorem reads_arg (hT : TabOK P T) {d : Nat} {t : TypeId} {v : Value} {r : Reach} {b0 base : Nat} {x : DataW H} {ps : List MemPlace} (hd : depT T d t = true) (hval : Value.okWide P w r b0 t v) (h : DataW.Trod enc P w base sp held t v x ps) (hw : ∀ n ∈ x.weights P t, n ≤ reachBytes) :
    ∃ p : Sp, FitP T d t p ∧ p.den.rel Aw.ι0 w (fun _ _ => False) v ∧ p.den.pure = true := by
  obtain ⟨fuel, hf⟩ := h
  obtain ⟨ss, h1, h2⟩ := reads hT d fuel t _ _ hd hf hw
  have hD := fit_isDL h1
  have hden := isDL_den hD
  have pur : ∀ {l : List Aw.Pred}, ((l.map Aw.Cell.dat).all Aw.Cell.pure) = true := fun {l} => by simp [Aw.Cell.pure]
  cases d with
  | zero => exact h1.elim
  | succ d =>
    have one : ∀ (hv : v.cells.toList = [v]) (hs : isStr T t = false), ∃ p : Sp, FitP T (d + 1) t p ∧ p.den.rel Aw.ι0 w (fun _ _ => False) v ∧ p.den.pure = true := fun hv hs => by
      rw [hv] at h2
      match ss, h2.1 with
      | [c], _ =>
        have hc : isD c = true := by simp only [isDL, Bool.and_eq_true] at hD; exact hD.1
        have hr := h2.2 0 c v rfl rfl
        refine ⟨.one c, ?_, ?_, ?_⟩
        · unfold FitP; rw [hs]; exact ⟨c, rfl, h1⟩
        · show Aw.Cell.rel _ _ _ c.den v ∧ _
          rw [isD_den hc]; exact ⟨hr, c.pred.one hr⟩
        · show c.den.pure = true
          rw [isD_den hc]; rfl
    simp only [depT] at hd
    split at hd
    rotate_left; · cases hd
    rename_i i hi
    have hu := (hT.ty _ _ hi).und
    split at hd
    · rename_i hdesc; rw [hdesc] at hu
      obtain ⟨b, rfl⟩ := Go.WideShapes.okWide_bool hu hval
      exact one rfl (by unfold isStr; rw [hi]; simp only [hdesc])
    · rename_i k hdesc; rw [hdesc] at hu
      obtain ⟨b, rfl⟩ := Go.WideShapes.okWide_int hu hval
      exact one rfl (by unfold isStr; rw [hi]; simp only [hdesc])
    · rename_i hdesc; rw [hdesc] at hu
      obtain ⟨b, rfl⟩ := Go.WideShapes.okWide_string hu hval
      exact one rfl (by unfold isStr; rw [hi]; simp only [hdesc])
    · rename_i e hdesc; rw [hdesc] at hu
      obtain ⟨a, len, cap, rfl⟩ := Go.WideShapes.okWide_slice hu hval
      exact one rfl (by unfold isStr; rw [hi]; simp only [hdesc])
    · rename_i fs hdesc; rw [hdesc] at hu
      obtain ⟨cs, rfl, _⟩ := Go.WideShapes.okWide_struct hu hval
      have hs : isStr T t = true := by unfold isStr; rw [hi]; simp only [hdesc]
      have h2 : RelL w ss cs.toList := h2
      refine ⟨.agg ss, ?_, ?_, ?_⟩
      · unfold FitP; rw [hs]; exact ⟨ss, rfl, h1⟩
      · show ∃ vs, Value.agg cs = .agg vs ∧ _
        refine ⟨cs, rfl, by rw [List.length_map]; exact h2.1, fun q c u hc hu => ?_⟩
        rw [hden, predL_map, List.getElem?_map, List.getElem?_map] at hc
        cases hq : ss[q]? with
        | none => rw [hq] at hc; cases hc
        | some c' =>
          rw [hq] at hc
          simp only [Option.map_some, Option.some.injEq] at hc
          subst hc
          have hr := h2.2 q c' u hq hu
          exact ⟨hr, c'.pred.one hr⟩
      · show (ss.map Sc.den).all _ = true
        rw [hden]; exact pur
    · cases hd
theorem reads_args (hT : TabOK P T) {d : Nat} {r : Reach} {b0 base : Nat} : ∀ {ts : List TypeId} {vs : List Value} {xs : List (DataW H)} {ps : List MemPlace}, (∀ t ∈ ts, depT T d t = true) → (∀ (j : Nat) t v, ts[j]? = some t → vs[j]? = some v → Value.okWide P w r b0 t v) →
    DataW.TrodAll enc P w base sp held ts vs xs ps → (∀ n ∈ DataW.weightsEach P ts xs, n ≤ reachBytes) → ∃ qs : List Sp, FitAll T d ts qs ∧ Aw.partsRel Aw.ι0 w (fun _ _ => False) (qs.map Sp.den) vs ∧ (qs.map Sp.den).all Aw.Part.pure = true
  | [], vs, xs, ps, _, _, h, _ => by
    match vs, xs, h with
    | [], [], _ => exact ⟨[], rfl, ⟨rfl, fun i p u hp => by simp at hp⟩, rfl⟩
  | t :: ts, vs, xs, ps, hd, hval, h, hw => by
    match vs, xs, h with
    | v :: vs, x :: xs, ⟨p, q, h1, h2, _⟩ =>
      rw [DataW.weightsEach] at hw
      obtain ⟨p1, e1, e2, e3⟩ := reads_arg hT (hd t List.mem_cons_self) (hval 0 t v rfl rfl) h1 fun n hn => hw n (List.mem_append_left _ hn)
      obtain ⟨qs, g1, g2, g3⟩ := reads_args hT (fun t ht => hd t (List.mem_cons_of_mem _ ht)) (fun j t v ht hv => hval (j + 1) t v (by simpa using ht) (by simpa using hv)) h2 fun n hn => hw n (List.mem_append_right _ hn)
      refine ⟨p1 :: qs, ⟨p1, qs, rfl, e1, g1⟩, ⟨by simpa using g2.1, fun i y u hy hu => ?_⟩, by simp only [List.map_cons, List.all_cons, Bool.and_eq_true]; exact ⟨e3, g3⟩⟩
      cases i with
      | zero => simp only [List.map_cons, List.getElem?_cons_zero, Option.some.injEq] at hy hu; subst hy; subst hu; exact e2
      | succ i => exact g2.2 i y u (by simpa using hy) (by simpa using hu)
end

/-- A list for a slice's elements. -/
theorem list_of {α : Type} [Inhabited α] {n : Nat} {f : Nat → List Sc} {c : α → List Sc} (d : α) (h : ∀ i, i < n → ∃ x, predL (f i) = predL (c x)) : ∃ xs : List α, xs.length = n ∧ ∀ i, i < n → predL (f i) = predL (c (xs.getD i d)) := by
  obtain ⟨g, hg⟩ := choose_lt' h
  refine ⟨(List.range n).map g, by simp, fun i hi => ?_⟩
  rw [hg i hi]
  congr 2
  rw [List.getD_eq_getElem?_getD, List.getElem?_map, List.getElem?_range hi]; rfl
theorem sl_pred' {k n m : Nat} {f g : Nat → List Sc} (h : n = m) (hf : ∀ i, i < n → predL (f i) = predL (g i)) : (Sc.sl k n f).pred = (Sc.sl k m g).pred := by
  subst h
  show elsP k (els n f) = elsP k (els n g)
  unfold els
  congr 1
  exact List.map_congr_left fun i hi => hf i (by simpa using hi)
end -- nc
end Go.Proofs.YtgjbehfdjnekdaaGreatDoor.Sy
end
section
/- A closed run: the operations on values are right. -/
set_option linter.unusedVariables false
set_option linter.unusedSimpArgs false
namespace Go.Proofs.YtgjbehfdjnekdaaGreatDoor.Xc
noncomputable section
open Go.RowKit
open Go.Proofs.YtgjbehfdjnekdaaGreatDoor.Aw (Kept nlt nle retv getD_put op_steps add_add eqGuard_int eqGuard_str eqGuard_bool)
section
variable {P : Program} {rd : Rd} {E : Env} {U : Us} {a : Act} {w : World} {T : Tab} {o : Oper}

theorem run_convV (hT : TabOK P T) {s d : TypeId} {i j : XT} (hi : T.ty s = some i) (hj : T.ty d = some j) {c r : Xv} (h : convV i.desc j.desc c = some r) {u : Value} (hu : c.rel E U u) :
    ∃ z, (convert s d u).run P w = .ok z w ∧ r.rel E U z := by
  have u1 := (hT.ty _ _ hi).und
  have u2 := (hT.ty _ _ hj).und
  unfold convV at h
  split at h
  · rename_i k k' n hd
    rw [hd] at u2
    cases hu; injection h with h; subst h
    exact ⟨.int k (k.wrap n), by simp [convert, run_underlying u1, run_underlying u2, Conv.intToInt], rfl⟩
  · rename_i s h1 h2
    rw [h1] at u1; rw [h2] at u2
    cases hu; injection h with h; subst h
    exact ⟨_, by simp [convert, run_underlying u1, run_underlying u2], rfl⟩
  · cases h
  · cases h
theorem run_unV {op : UnOp} {c r : Xv} (h : unV op c = some r) {u : Value} (hu : c.rel E U u) : ∃ z, (Op.unary op u).run P w = .ok z w ∧ r.rel E U z := by
  unfold unV at h
  split at h
  · cases hu; injection h with h; subst h; exact ⟨_, by simp [Op.unary], rfl⟩
  · cases hu; injection h with h; subst h; exact ⟨_, by simp only [Op.unary, Op.intArith, Sem.run_pure], rfl⟩
  · cases hu; injection h with h; subst h; exact ⟨_, by simp only [Op.unary, Op.intBits, Sem.run_pure], rfl⟩
  · cases h

theorem run_pureV (hT : TabOK P T) (h : RdOK rd E U a) {x : Xa} (hp : pureV T rd o.op = some x) : ∃ u, (execOp a.eval o).run P w = .ok (.value u) w ∧ x.rel E U u := by
  have v : ∀ {s : Sem Value} {z : Value}, s.run P w = .ok z w → (do pure (.value (← s)) : Sem Next).run P w = .ok (.value z) w := fun hs => by simp [hs]
  cases ho : o.op with
  | move y => rw [ho] at hp; exact ⟨a.eval y, by unfold execOp; simp only [ho]; rfl, h _ _ hp⟩
  | assign y => rw [ho] at hp; exact ⟨a.eval y, by unfold execOp; simp only [ho]; rfl, h _ _ hp⟩
  | pick c y z =>
    rw [ho] at hp
    simp only [pureV] at hp
    split at hp
    · rename_i b hc
      have hb : a.eval c = .bool b := h.one hc
      split at hp
      · rename_i e; subst e; exact ⟨_, by unfold execOp; simp only [ho, hb, asBool]; rfl, h _ _ hp⟩
      · rename_i e; have e : b = false := by simpa using e
        subst e; exact ⟨_, by unfold execOp; simp only [ho, hb, asBool]; rfl, h _ _ hp⟩
    · cases hp
  | nilCheck y =>
    rw [ho] at hp
    simp only [pureV] at hp
    split at hp
    · rename_i n off hy
      injection hp with hp; subst hp
      have hr := h.one hy
      obtain ⟨_, b, o0, e1, e2⟩ := id hr
      exact ⟨a.eval y, by unfold execOp; simp only [ho, e2]; rfl, hr⟩
    · rename_i f hy
      injection hp with hp; subst hp
      have hr : a.eval y = _ := h.one hy
      exact ⟨a.eval y, by unfold execOp; simp only [ho, hr]; rfl, hr⟩
    · cases hp
  | binOp op t y z t' =>
    rw [ho] at hp
    simp only [pureV] at hp
    split at hp
    · rename_i p q h1 h2
      split at hp
      · rename_i c hc
        injection hp with hp; subst hp
        obtain ⟨u, hu, hr⟩ := run_binV (w := w) hT hc (h _ _ h1) (h _ _ h2)
        exact ⟨u, by unfold execOp; simp only [ho]; exact v hu, hr⟩
      · cases hp
    · cases hp
  | unOp op t y =>
    rw [ho] at hp
    simp only [pureV] at hp
    split at hp
    · rename_i c hc
      split at hp
      · rename_i r hr
        injection hp with hp; subst hp
        obtain ⟨u, hu, hr⟩ := run_unV (P := P) (w := w) hr (h.one hc)
        exact ⟨u, by unfold execOp; simp only [ho]; exact v hu, hr⟩
      · cases hp
    · cases hp
  | convert s d y =>
    rw [ho] at hp
    simp only [pureV] at hp
    split at hp
    · rename_i i j c h1 h2 h3
      split at hp
      · rename_i r hr
        injection hp with hp; subst hp
        obtain ⟨u, hu, hr⟩ := run_convV (w := w) hT h1 h2 hr (h.one h3)
        exact ⟨u, by unfold execOp; simp only [ho]; exact v hu, hr⟩
      · cases hp
    · cases hp
  | extract y i =>
    rw [ho] at hp
    simp only [pureV] at hp
    split at hp
    · rename_i l hl
      split at hp
      · rename_i p hpp
        injection hp with hp; subst hp
        obtain ⟨vs, hv, hlen, hh⟩ := h _ _ hl
        have hlt : i < vs.size := by
          have : i < l.length := by rcases Nat.lt_or_ge i l.length with h | h; exact h; simp [List.getElem?_eq_none h] at hpp
          have h2 : vs.toList.length = vs.size := by simp
          omega
        exact ⟨vs[i], by unfold execOp; simp only [ho, hv, Instr.extract, Array.getElem?_eq_getElem hlt, Sem.run_bind, Sem.run_pure, Result.andThen_ok], hh i p vs[i] hpp (by simp [hlt])⟩
      · cases hp
    · cases hp
  | field t y i =>
    rw [ho] at hp
    simp only [pureV] at hp
    split at hp
    · rename_i j cs h1 h2
      split at hp
      · rename_i fs hd
        split at hp
        · rename_i f hf
          split at hp
          · rename_i k hk
            split at hp
            · rename_i p hpp
              injection hp with hp; subst hp
              have hu := (hT.ty _ _ h1).und
              rw [hd] at hu
              obtain ⟨vs, hv, hvr⟩ := h _ _ h2
              obtain ⟨u, hu', hr⟩ := run_partV (w := w) (hT.ty _ _ hk) hpp hvr
              exact ⟨u, by unfold execOp; simp [ho, hv, Instr.field, run_underlying hu, hf, asAgg, hu'], hr⟩
            · cases hp
          · cases hp
        · cases hp
      · cases hp
    · cases hp
  | index t y z =>
    rw [ho] at hp
    simp only [pureV] at hp
    split at hp
    · rename_i p k n h1 h2
      split at hp
      · rename_i q hq
        injection hp with hp; subst hp
        obtain ⟨u, hu, hr⟩ := run_indexV (w := w) (k := k) hT hq (h _ _ h1)
        have hz : a.eval z = .int k n := h.one h2
        exact ⟨u, by unfold execOp; simp only [ho, hz]; exact v hu, hr⟩
      · cases hp
    · cases hp
  | slice t y lo hi mx =>
    rw [ho] at hp
    simp only [pureV] at hp
    split at hp
    · rename_i c hc
      split at hp
      · rename_i r hr
        injection hp with hp; subst hp
        exact run_sliceV hT h (h.one hc) hr ho
      · cases hp
    · cases hp
  | fieldAddr t y i =>
    rw [ho] at hp
    simp only [pureV] at hp
    split at hp
    · rename_i j n off h1 h2
      split at hp
      · rename_i fs hd
        split at hp
        · rename_i f hf
          split at hp
          · rename_i k hk
            cases hb : k.size.beq 0 with
            | true => rw [hb, cond_true] at hp; cases hp
            | false =>
              rw [hb, cond_false] at hp; injection hp with hp; subst hp
              have hu := (hT.ty _ _ h1).und
              rw [hd] at hu
              obtain ⟨hn, b, o0, e1, e2⟩ := h.one h2
              have hk0 : k.size ≠ 0 := fun e => by rw [e] at hb; cases hb
              refine ⟨.pointer (some ⟨b, o0 + off + f.offset, none⟩), by unfold execOp; simp [ho, e2, Instr.fieldAt, run_underlying hu, hf, Instr.sureAddr, fieldPlace, (hT.ty _ _ hk).size, add_add, hk0], hn, b, o0, e1, by rw [Nat.add_assoc]⟩
          · cases hp
        · cases hp
      · cases hp
    · cases hp
  | indexAddr t y z =>
    rw [ho] at hp
    simp only [pureV] at hp
    split at hp
    · rename_i c k n h1 h2
      split at hp
      · rename_i q hq
        injection hp with hp; subst hp
        obtain ⟨u, hu, hr⟩ := run_addrV (w := w) (k := k) hT hq (h.one h1)
        have hz : a.eval z = .int k n := h.one h2
        exact ⟨u, by unfold execOp; simp only [ho, hz]; exact v hu, hr⟩
      · cases hp
    · cases hp
  | build t parts =>
    rw [ho] at hp
    simp only [pureV] at hp
    split at hp
    · rename_i cs hcs
      injection hp with hp; subst hp
      obtain ⟨us, hu, hr⟩ := run_build (w := w) hT h hcs
      exact ⟨.agg us, by unfold execOp; simp only [ho]; exact v hu, us, rfl, hr⟩
    · cases hp
  | makeFunc fn first caps =>
    rw [ho] at hp
    cases fn with
    | func f =>
      simp only [pureV] at hp
      cases hb : first.isEmpty && caps.isEmpty with
      | false => rw [hb, cond_false] at hp; cases hp
      | true =>
        rw [hb, cond_true] at hp; injection hp with hp; subst hp
        simp only [Bool.and_eq_true, Array.isEmpty_iff] at hb
        obtain ⟨rfl, rfl⟩ := hb
        exact ⟨.func (.func f) #[] #[], by unfold execOp; simp [ho, Instr.makeFunc], rfl⟩
    | _ => simp [pureV] at hp
  | call c =>
    rw [ho] at hp
    obtain ⟨callee, xs, ts⟩ := c
    cases callee with
    | builtin b =>
      simp only [pureV] at hp
      split at hp
      · rename_i r hr
        injection hp with hp; subst hp
        exact run_callV hT h hr ho
      · cases hp
    | _ => simp [pureV] at hp
  | _ => rw [ho] at hp; simp [pureV] at hp
end
end -- nc
end Go.Proofs.YtgjbehfdjnekdaaGreatDoor.Xc
end
section
/- A closed run: reads, writes, new objects. -/
set_option linter.unusedVariables false
set_option linter.unusedSimpArgs false
namespace Go.Proofs.YtgjbehfdjnekdaaGreatDoor.Xc
noncomputable section
open Go.RowKit
open Go.Proofs.YtgjbehfdjnekdaaGreatDoor.Aw (Kept nlt nle retv getD_put op_steps add_add kept_alloc kept_setRow)

structure Sub (μ σ : XS) : Prop where
  sl : ∀ t v, Aw.look t μ.sl = some v → Aw.look t σ.sl = some v
  ob : ∀ n x, Aw.look n μ.ob = some x → Aw.look n σ.ob = some x
theorem Sub.refl (σ : XS) : Sub σ σ := ⟨fun _ _ h => h, fun _ _ h => h⟩
theorem Sub.opd {μ σ : XS} (h : Sub μ σ) {x : Operand} {v : Xa} (hx : μ.opd x = some v) : σ.opd x = some v := by
  cases x with
  | tmp t => exact h.sl t v hx
  | _ => exact hx
theorem Sub.rd {μ σ : XS} (h : Sub μ σ) {X : Ctx} {E : Env} {U : Us} {a : Act} {w : World} (hr : RI X E U σ a w) : RdOK μ.opd E U a := fun x v hx => hr.opd (h.opd hx)

def Env.set (E : Env) (n : Nat) (v : Value) (h : Nat) : Env := ⟨Aw.upd E.ι n v, Aw.upd E.hi n h⟩
theorem Env.set_le {E : Env} {U : Us} {n : Nat} {v : Value} {h : Nat} (hn : ¬ U n) : Env.le U E (E.set n v h) :=
  ⟨fun m hm => Aw.upd_other _ _ fun e => hn (e ▸ hm), fun m hm => Aw.upd_other _ _ fun e => hn (e ▸ hm)⟩
theorem Env.set_ι {E : Env} {n : Nat} {v : Value} {h : Nat} : (E.set n v h).ι n = v := Aw.upd_same _ _ _
theorem Env.set_hi {E : Env} {n : Nat} {v : Value} {h : Nat} : (E.set n v h).hi n = h := Aw.upd_same _ _ _

section
variable {P : Program} {X : Ctx} {U : Us} {σ μ : XS} {o : Oper} {d lo : Nat} {T : Tab}

/-- An operation that makes an object in a new block (or in none). -/
theorem step_new {x : Xa} {y : Xo} {rs : List (Nat × Xa)} {ro : List (Nat × Xo)} (hd : o.dst = some d) (hN : d < X.N) (hfr : ¬ U lo)
    (h : ∀ E a w, RI X E U σ a w → ∃ (u v : Value) (w' : World) (k : Nat), (execOp a.eval o).run P w = .ok (.value u) w' ∧ Kept (fun _ _ => False) w w' ∧
      (∀ b, (E.set lo v k).blk lo = some b → w.heap.size ≤ b) ∧ y.rel (E.set lo v k) (fun n => U n ∨ (lo ≤ n ∧ n < lo + 1)) lo w' ∧ x.rel (E.set lo v k) (fun n => U n ∨ (lo ≤ n ∧ n < lo + 1)) u) :
    StepS P X o U σ lo [⟨rs, ro, some (d, x), [], [(lo, y)], lo + 1⟩] := by
  refine step_mem hd hN fun E a w hr => ?_
  obtain ⟨u, v, w', k, h1, h2, h3, h4, h5⟩ := h E a w hr
  have hl : ∀ n z, Aw.look n [(lo, y)] = some z → n = lo ∧ z = y := fun n z hz => by
    simp only [Aw.look_nil, Aw.look_cons] at hz
    split at hz
    · rename_i e; injection hz with hz; exact ⟨e, hz.symm⟩
    · cases hz
  refine ⟨u, w', E.set lo v k, fun _ => False, h1, Env.set_le hfr, h2, fun b h => h.elim, fun n z hz => ?_, fun n z b hz hb => ?_, fun n m z z' b hz hz' _ _ => ?_, h5⟩
  · obtain ⟨rfl, rfl⟩ := hl n z hz; exact ⟨.inr ⟨Nat.le_refl _, Nat.lt_succ_self _⟩, h4⟩
  · obtain ⟨rfl, rfl⟩ := hl n z hz; exact .inr (h3 b hb)
  · rw [(hl n z hz).1, (hl m z' hz').1]

theorem vals_of {E : Env} {U : Us} {p : Xp} {v : Value} (h : p.rel E U v) : p.cells.length = v.cells.size := by have := (Xp.rel_cells h).1; simpa using this

/-- A value in a new block. -/
theorem new_cells {E : Env} {w w1 : World} {cs : List Xv} {vs : Array Value} {t : TypeId} (hcs : cellsRel E U cs vs.toList) (hfr : ¬ U lo) (hh : w1.heap = w.heap) :
    (Xo.cells t cs).rel (E.set lo (.pointer (some ⟨w.heap.size, 0, none⟩)) vs.size) (fun n => U n ∨ (lo ≤ n ∧ n < lo + 1)) lo (w1.alloc (.cells vs t)) := by
  have hl := hcs.1
  simp only [Array.length_toList] at hl
  refine ⟨w.heap.size, 0, vs, Env.set_ι, by rw [← hh]; exact heap_alloc_new w1 _, by rw [Env.set_hi]; omega, by rw [Env.set_hi]; omega, fun i c hc => ?_⟩
  have hi : i < vs.size := by rcases Nat.lt_or_ge i cs.length with h | h; · omega
                              · simp [List.getElem?_eq_none h] at hc
  exact ⟨vs[i], by simp [hi], Xv.mono (hcs.2 i c vs[i] hc (by simp [hi])) (Env.set_le hfr) fun n hn => .inl hn⟩
theorem kept_alloc' {w w1 : World} {x : Obj} (hk : Kept (fun _ _ => False) w w1) : Kept (fun _ _ => False) w (w1.alloc x) := hk.trans (kept_alloc w1 x)

theorem set_blk {E : Env} {b q h : Nat} : ∀ c, (E.set lo (.pointer (some ⟨b, q, none⟩)) h).blk lo = some c → b ≤ c := fun c hc => by
  unfold Env.blk at hc
  rw [Env.set_ι] at hc
  simp only [Option.some.injEq] at hc
  omega

theorem step_alloc (hT : TabOK P T) {t : TypeId} {i : XT} (hi : T.ty t = some i) (ho : o.op = .alloc t) (hd : o.dst = some d) (hN : d < X.N) (hfr : ¬ U lo) :
    StepS P X o U σ lo [⟨[], [], some (d, .val (.one (.ptr lo 0))), [], [(lo, .cells t i.zero)], lo + 1⟩] := by
  refine step_new hd hN hfr fun E a w hr => ?_
  obtain ⟨z, hz, hzc, _⟩ := (hT.ty _ _ hi).zero
  have hrun : (execOp a.eval o).run P w = .ok (.value (.pointer (some ⟨w.heap.size, 0, none⟩))) (w.alloc (.cells z.cells t)) := by
    unfold execOp; simp [ho, Instr.alloc, hz, newVar, newRow, run_newObj]
  exact ⟨_, .pointer (some ⟨w.heap.size, 0, none⟩), _, z.cells.size, hrun, kept_alloc _ _, set_blk, new_cells (zerosA_rel E U hzc) hfr rfl, .inr ⟨Nat.le_refl _, Nat.lt_succ_self _⟩, w.heap.size, 0, Env.set_ι, rfl⟩

theorem step_box {t : TypeId} {x : Operand} {p : Xp} (hs : Sub μ σ) (hx : μ.opd x = some (.val p)) (ho : o.op = .box t x) (hd : o.dst = some d) (hN : d < X.N) (hfr : ¬ U lo) :
    StepS P X o U σ lo [⟨[], [], some (d, .val (.one (.ptr lo 0))), [], [(lo, .cells t p.cells)], lo + 1⟩] := by
  refine step_new hd hN hfr fun E a w hr => ?_
  have hv := hr.opd (hs.opd hx)
  have hrun : (execOp a.eval o).run P w = .ok (.value (.pointer (some ⟨w.heap.size, 0, none⟩))) (w.alloc (.cells (a.eval x).cells t)) := by
    unfold execOp; simp [ho, Instr.box, newVar, newRow, run_newObj]
  exact ⟨_, .pointer (some ⟨w.heap.size, 0, none⟩), _, (a.eval x).cells.size, hrun, kept_alloc _ _, set_blk, new_cells (Xp.rel_cells hv) hfr rfl, .inr ⟨Nat.le_refl _, Nat.lt_succ_self _⟩, w.heap.size, 0, Env.set_ι, rfl⟩

theorem step_load (hT : TabOK P T) {t : TypeId} {x : Operand} {i : XT} {n off : Nat} {p : Xp} (hs : Sub μ σ) (hi : T.ty t = some i) (hx : μ.opd x = some (.val (.one (.ptr n off)))) (hp : cellAt μ n off i.agg i.size = some p) (ho : o.op = .load t x) (hd : o.dst = some d) (hN : d < X.N) :
    StepS P X o U σ lo [⟨[], [], some (d, .val p), [], [], lo⟩] := by
  refine step_val hd hN fun E a w hr => ?_
  have hp' : cellAt σ n off i.agg i.size = some p := by
    unfold cellAt at hp ⊢
    cases hl : Aw.look n μ.ob with
    | none => rw [hl] at hp; cases hp
    | some y => rw [hl] at hp; rw [hs.ob n y hl]; exact hp
  have hv := hr.opd (hs.opd hx)
  obtain ⟨u, hu, hrel⟩ := run_cellAt hr hp' (hT.ty _ _ hi).agg (hT.ty _ _ hi).size hv
  obtain ⟨_, b, o0, e1, e2⟩ := hv
  refine ⟨u, ?_, hrel⟩
  rw [e2] at hu
  simp only [asAddr, Sem.run_bind, Sem.run_pure, Result.andThen_ok] at hu
  unfold execOp
  simp only [ho, e2, Instr.loadAt, Instr.sureAddr, Sem.run_bind, Sem.run_pure, Result.andThen_ok, hu]

theorem step_store (hT : TabOK P T) {t t' : TypeId} {x y : Operand} {i : XT} {n off : Nat} {p : Xp} {cs : List Xv} (hs : Sub μ σ) (hi : T.ty t = some i) (hx : μ.opd x = some (.val (.one (.ptr n off)))) (hy : μ.opd y = some (.val p)) (hb : Aw.look n μ.ob = some (.cells t' cs))
    (hp : p.cells.length = i.size) (hk : off + i.size ≤ cs.length) (ho : o.op = .store t x y) (hd : o.dst = none) :
    StepS P X o U σ lo [⟨[], [], none, [n], [(n, .cells t' (setL cs off p.cells))], lo⟩] := by
  intro a w ⟨E, h⟩
  obtain ⟨hn, b, o0, e1, e2⟩ := h.opd (hs.opd hx)
  have hv := h.opd (hs.opd hy)
  have hr := Xp.rel_cells hv
  have hlook := hs.ob n _ hb
  obtain ⟨_, b', o', vs, e1', e3, e4, e5, e6⟩ := h.heap.rel n _ hlook
  rw [e1] at e1'; simp only [Value.pointer.injEq, Option.some.injEq, Addr.mk.injEq, and_true] at e1'
  obtain ⟨rfl, rfl⟩ := e1'
  have hlen : (a.eval y).cells.size = i.size := by have := hr.1; simp only [Array.length_toList] at this; omega
  have hst := run_storeCells_at P b (o0 + off) t' (a.eval y).cells.toList 0 vs w e3 (by simp only [Array.length_toList]; omega) fun v hv => by
    obtain ⟨j, hj, rfl⟩ := List.getElem_of_mem hv
    have hj' : j < p.cells.length := by rw [hr.1]; exact hj
    exact Xv.one (hr.2 j p.cells[j] _ (List.getElem?_eq_getElem hj') (List.getElem?_eq_getElem hj))
  generalize hnew : (vs.toList.take (o0 + off) ++ (a.eval y).cells.toList ++ vs.toList.drop (o0 + off + (a.eval y).cells.toList.length)).toArray = new at hst
  have hrun : (execOp a.eval o).run P w = .ok .skip (w.setRow b new) := by
    unfold execOp
    have hcond : ¬ ((a.eval y).cells.size ≠ i.size) := by omega
    simp only [ho, e2, Instr.storeAt, Instr.sureAddr, storeVar, Sem.run_bind, Sem.run_pure, Result.andThen_ok, (hT.ty _ _ hi).size, Sem.run_ite, if_neg hcond]
    simp only [hst, Result.andThen_ok]
  unfold wpX
  rw [hrun, OpX_skip, hd]
  have hblk : E.blk n = some b := by unfold Env.blk; rw [e1]
  have hl : ∀ m z, Aw.look m [(n, Xo.cells t' (setL cs off p.cells))] = some z → m = n ∧ z = .cells t' (setL cs off p.cells) := fun m z hz => by
    simp only [Aw.look_nil, Aw.look_cons] at hz
    split at hz
    · rename_i e; injection hz with hz; exact ⟨e, hz.symm⟩
    · cases hz
  have hns : new.size = vs.size := by rw [← hnew]; simp; omega
  have hstep := h.step (E' := E) (U' := U) (T := fun c => c = b) (rm := [n]) (ad := [(n, .cells t' (setL cs off p.cells))]) (.refl _ _) (fun _ h => h) (kept_setRow (new := new) e3)
    (fun c hc => ⟨n, _, by simp, hlook, by rw [hblk, hc]⟩) (fun m z hz => by
      obtain ⟨rfl, rfl⟩ := hl m z hz
      refine ⟨hn, b, o0, new, e1, setRow_heap w b vs _ t' (0, 0) e3, by rw [hns]; exact e4, by simp [setL]; omega, fun j c hc => ?_⟩
      have hnl : new.toList = vs.toList.take (o0 + off) ++ (a.eval y).cells.toList ++ vs.toList.drop (o0 + off + (a.eval y).cells.toList.length) := by rw [← hnew]
      have hpl : p.cells.length = (a.eval y).cells.toList.length := hr.1
      have hvl : (vs.toList.take (o0 + off)).length = o0 + off := by simp; omega
      have hget : ∀ v, new.toList[o0 + j]? = some v → new[o0 + j]? = some v := fun v hv => by rw [← Array.getElem?_toList]; exact hv
      simp only [setL] at hc
      have hct : (cs.take off).length = off := by simp; omega
      rcases Nat.lt_or_ge j off with h1 | h1
      · rw [List.getElem?_append_left (by omega), List.getElem?_take, if_pos h1] at hc
        obtain ⟨v, hv, hrel⟩ := e6 j c hc
        refine ⟨v, hget v ?_, hrel⟩
        rw [hnl, List.append_assoc, List.getElem?_append_left (by omega), List.getElem?_take, if_pos (by omega), Array.getElem?_toList]; exact hv
      · rw [List.getElem?_append_right (by omega), hct] at hc
        rcases Nat.lt_or_ge (j - off) p.cells.length with h2 | h2
        · rw [List.getElem?_append_left h2] at hc
          have hj : j - off < (a.eval y).cells.toList.length := by omega
          refine ⟨(a.eval y).cells.toList[j - off], hget _ ?_, hr.2 _ c _ hc (List.getElem?_eq_getElem hj)⟩
          rw [hnl, List.append_assoc, List.getElem?_append_right (by omega), hvl, List.getElem?_append_left (by omega), show o0 + j - (o0 + off) = j - off by omega]
          exact List.getElem?_eq_getElem hj
        · rw [List.getElem?_append_right (by omega), List.getElem?_drop] at hc
          rw [show off + p.cells.length + (j - off - p.cells.length) = j by omega] at hc
          obtain ⟨v, hv, hrel⟩ := e6 j c hc
          refine ⟨v, hget v ?_, hrel⟩
          rw [hnl, List.append_assoc, List.getElem?_append_right (by omega), hvl, List.getElem?_append_right (by omega), List.getElem?_drop, Array.getElem?_toList]
          rw [← hv]; congr 1; omega)
    (fun m z c hz hc => by obtain ⟨rfl, rfl⟩ := hl m z hz; exact .inl ⟨m, _, by simp, hlook, hc⟩) (fun m m' z z' c hz hz' _ _ => by rw [(hl m z hz).1, (hl m' z' hz').1])
  exact ⟨_, List.mem_singleton.2 rfl, ⟨E, (hstep.weakU fun n hn => .inl hn)⟩⟩
end
end -- nc
end Go.Proofs.YtgjbehfdjnekdaaGreatDoor.Xc
end
