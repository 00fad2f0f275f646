/- Parts of the proof of one statement: Xc5, Sy0. -/
import Derived.Test.YtgjbehfdjnekdaaGreatDoorT07
import Derived.Test.YtgjbehfdjnekdaaGreatDoorT10
set_option linter.all false
section
/- A closed run: the operations that reckon with values alone. -/
set_option linter.unusedVariables false
set_option linter.unusedSimpArgs false
namespace Go.Proofs.YtgjbehfdjnekdaaGreatDoor.Xc
noncomputable section
open Go.RowKit
open Go.Proofs.YtgjbehfdjnekdaaGreatDoor.Aw (Kept nlt nle retv getD_put op_steps add_add eqGuard_int eqGuard_str eqGuard_bool)

/-! ### Bounds of slice expressions -/
def bnd (rd : Rd) (x : Option Operand) (dflt : Nat) : Option Nat :=
  match x with
  | none => some dflt
  | some y => match rd.one y with
    | some (.int _ n) => if 0 ≤ n then some n.toNat else none
    | _ => none

section
variable {P : Program} {rd : Rd} {E : Env} {U : Us} {a : Act} {w : World} {T : Tab}

theorem run_bound {i : Int} {y : Nat} {k : IntKind} {code : BoundsCode} (h0 : 0 ≤ i) (h1 : i ≤ y) (w : World) : (Instr.sliceBound (.int k i) y code).run P w = .ok i.toNat w := by
  simp [Instr.sliceBound, asIntOf, h0, h1]
theorem bnd_some (h : RdOK rd E U a) {y : Operand} {dflt l : Nat} (hb : bnd rd (some y) dflt = some l) : ∃ k n, a.eval y = .int k n ∧ 0 ≤ n ∧ n.toNat = l := by
  simp only [bnd] at hb
  split at hb
  · rename_i k n hy
    split at hb
    · rename_i h0; injection hb with hb; exact ⟨k, n, h.one hy, h0, hb⟩
    · cases hb
  · cases hb

theorem run_bnds (h : RdOK rd E U a) {isS : Bool} {len cap l h' m : Nat} {lo hi mx : Option Operand} (hmx : bnd rd mx cap = some m) (hmn : (mx.isNone || hi.isSome) = true) (hhi : bnd rd hi len = some h') (hlo : bnd rd lo 0 = some l) (h1 : l ≤ h') (h2 : h' ≤ m) (h3 : m ≤ cap) :
    (Instr.sliceBounds isS len cap (lo.map a.eval) (hi.map a.eval) (mx.map a.eval)).run P w = .ok (l, h', m) w := by
  unfold Instr.sliceBounds
  have key : ∀ {z : Operand} {d v y : Nat} {code : BoundsCode}, bnd rd (some z) d = some v → v ≤ y → (Instr.sliceBound (a.eval z) y code).run P w = .ok v w := fun {z d v y code} hz hv => by
    obtain ⟨k, n, e, h0, rfl⟩ := bnd_some h hz
    rw [e]; exact run_bound h0 (by omega) w
  cases mx with
  | none =>
    simp only [bnd, Option.some.injEq] at hmx; subst hmx
    cases hi with
    | none =>
      simp only [bnd, Option.some.injEq] at hhi; subst hhi
      cases lo with
      | none => simp only [bnd, Option.some.injEq] at hlo; subst hlo; simp [Sem.run_bind]
      | some z => simp only [Option.map_none, Option.map_some, Sem.run_bind, Sem.run_pure, Result.andThen_ok, key hlo h1]
    | some y =>
      cases lo with
      | none => simp only [bnd, Option.some.injEq] at hlo; subst hlo; simp only [Option.map_none, Option.map_some, Sem.run_bind, Sem.run_pure, Result.andThen_ok, key hhi h2]
      | some z => simp only [Option.map_none, Option.map_some, Sem.run_bind, Sem.run_pure, Result.andThen_ok, key hhi h2, key hlo h1]
  | some x =>
    cases hi with
    | none => cases hmn
    | some y =>
      cases lo with
      | none => simp only [bnd, Option.some.injEq] at hlo; subst hlo; simp only [Option.map_none, Option.map_some, Sem.run_bind, Sem.run_pure, Result.andThen_ok, key hmx h3, key hhi h2]
      | some z => simp only [Option.map_none, Option.map_some, Sem.run_bind, Sem.run_pure, Result.andThen_ok, key hmx h3, key hhi h2, key hlo h1]

/-! ### What is built of parts -/
def setL (cs : List Xv) (off : Nat) (new : List Xv) : List Xv := cs.take off ++ (new ++ cs.drop (off + new.length))
def Xp.cells : Xp → List Xv
  | .one c => [c]
  | .agg cs => cs
theorem Xp.rel_cells {p : Xp} {v : Value} (h : p.rel E U v) : cellsRel E U p.cells v.cells.toList := by
  cases p with
  | one c =>
    have h1 := Xv.one h
    have : v.cells = #[v] := by cases v <;> first | rfl | (simp [Value.oneCell'] at h1)
    rw [this]
    exact ⟨rfl, fun i c' v' hc hv => by
      cases i with
      | zero => simp only [Xp.cells, List.getElem?_cons_zero, Option.some.injEq] at hc hv; subst hc; subst hv; exact h
      | succ i => simp [Xp.cells] at hc⟩
  | agg cs => obtain ⟨vs, rfl, h⟩ := h; exact h
theorem cellsRel_set {cs new : List Xv} {vs us : List Value} {off : Nat} (h : cellsRel E U cs vs) (hn : cellsRel E U new us) (hk : off + new.length ≤ cs.length) :
    cellsRel E U (setL cs off new) (vs.take off ++ us ++ vs.drop (off + us.length)) := by
  obtain ⟨hl, hh⟩ := h
  obtain ⟨hl2, hh2⟩ := hn
  refine ⟨by simp only [setL, List.length_append, List.length_take, List.length_drop]; omega, fun i c v hc hv => ?_⟩
  have ht : (cs.take off).length = off := by simp; omega
  have htv : (vs.take off).length = off := by simp; omega
  simp only [setL] at hc
  rcases Nat.lt_or_ge i off with h1 | h1
  · rw [List.getElem?_append_left (by omega), List.getElem?_take, if_pos h1] at hc
    rw [List.append_assoc, List.getElem?_append_left (by omega), List.getElem?_take, if_pos h1] at hv
    exact hh i c v hc hv
  · rw [List.getElem?_append_right (by omega), ht] at hc
    rw [List.append_assoc, List.getElem?_append_right (by omega), htv] at hv
    rcases Nat.lt_or_ge (i - off) new.length with h2 | h2
    · rw [List.getElem?_append_left (by omega)] at hc hv
      exact hh2 _ c v hc hv
    · rw [List.getElem?_append_right (by omega), List.getElem?_drop] at hc hv
      refine hh i c v ?_ ?_
      · rw [← hc]; congr 1; omega
      · rw [← hv]; congr 1; omega

def fillX (place : Nat → Option (Nat × Nat)) (cs : List Xv) : List (Nat × Xp) → Option (List Xv)
  | [] => some cs
  | (i, p) :: r => match place i with
    | some (off, size) => if p.cells.length = size ∧ off + size ≤ cs.length then fillX place (setL cs off p.cells) r else none
    | none => none
theorem fill_rel {place : Nat → Option (Nat × Nat)} : ∀ {ps : List (Nat × Xp)} {vs : List (Nat × Value)} {cs cs' : List Xv} {us : Array Value},
    cellsRel E U cs us.toList → ps.map (·.1) = vs.map (·.1) → partsRel E U (ps.map (·.2)) (vs.map (·.2)) → fillX place cs ps = some cs' → ∃ us', Instr.fill place us vs = some us' ∧ cellsRel E U cs' us'.toList
  | [], [], cs, cs', us, h, _, _, hf => by simp only [fillX, Option.some.injEq] at hf; subst hf; exact ⟨us, rfl, h⟩
  | [], v :: vs, cs, cs', us, h, h1, _, hf => by simp at h1
  | p :: ps, [], cs, cs', us, h, h1, _, hf => by simp at h1
  | (i, p) :: ps, (j, v) :: vs, cs, cs', us, h, h1, h2, hf => by
    simp only [List.map_cons, List.cons.injEq] at h1
    obtain ⟨rfl, h1⟩ := h1
    simp only [fillX] at hf
    split at hf
    · rename_i off size hp
      split at hf
      · rename_i hc
        have hpr : p.rel E U v := h2.2 0 p v rfl rfl
        have hcr := Xp.rel_cells hpr
        have hsz : v.cells.size = size := by have := hcr.1; simp only [Array.length_toList] at this; omega
        have hle : off + v.cells.size ≤ us.size := by have := h.1; simp only [Array.length_toList] at this; omega
        have hset := cellsRel_set h hcr (off := off) (by omega)
        simp only [Array.length_toList] at hset
        rw [← Aw.fold_array off v.cells us hle] at hset
        obtain ⟨us', h3, h4⟩ := fill_rel (place := place) (ps := ps) (vs := vs) hset h1 ⟨by have := h2.1; simpa using this, fun i p' u hp' hu => h2.2 (i + 1) p' u (by simpa using hp') (by simpa using hu)⟩ hf
        refine ⟨us', ?_, h4⟩
        simp only [Instr.fill, hp]
        rw [if_neg (by simp [hsz]; omega)]
        exact h3
      · cases hf
    · cases hf

def fpartsX (rd : Rd) : List (Nat × Operand) → Option (List (Nat × Xp))
  | [] => some []
  | (i, x) :: l => match rd x, fpartsX rd l with
    | some (.val p), some ps => some ((i, p) :: ps)
    | _, _ => none
theorem fpartsX_rel (h : RdOK rd E U a) : ∀ {xs : List (Nat × Operand)} {ps : List (Nat × Xp)}, fpartsX rd xs = some ps →
    ps.map (·.1) = (xs.map fun x => (x.1, a.eval x.2)).map (·.1) ∧ partsRel E U (ps.map (·.2)) ((xs.map fun x => (x.1, a.eval x.2)).map (·.2))
  | [], ps, hp => by simp only [fpartsX, Option.some.injEq] at hp; subst hp; exact ⟨rfl, rfl, fun i p u hp => by simp at hp⟩
  | (i, x) :: xs, ps, hp => by
    simp only [fpartsX] at hp
    split at hp
    · rename_i p qs h1 h2
      injection hp with hp; subst hp
      have ih := fpartsX_rel h h2
      refine ⟨by simp only [List.map_cons, ih.1], by simpa using ih.2.1, fun i p' u hp' hu => ?_⟩
      cases i with
      | zero => simp only [List.getElem?_cons_zero, List.map_cons, Option.some.injEq] at hp' hu; subst hp'; subst hu; exact h _ _ h1
      | succ i => exact ih.2.2 i p' u (by simpa using hp') (by simpa using hu)
    · cases hp

def placesX (T : Tab) : List Field → Option (List (Nat × Nat))
  | [] => some []
  | f :: fs => match T.ty f.type, placesX T fs with
    | some i, some l => some ((f.offset, i.size) :: l)
    | _, _ => none
theorem run_places (hT : TabOK P T) : ∀ {fs : List Field} {l : List (Nat × Nat)}, placesX T fs = some l → (fs.mapM fun f => do pure (f.offset, ← sizeOf f.type) : Sem (List (Nat × Nat))).run P w = .ok l w
  | [], l, h => by simp only [placesX, Option.some.injEq] at h; subst h; rfl
  | f :: fs, l, h => by
    simp only [placesX] at h
    split at h
    · rename_i i l' hi hl
      injection h with h; subst h
      simp only [List.mapM_cons, Sem.run_bind, (hT.ty _ _ hi).size, Result.andThen_ok, Sem.run_pure, run_places hT hl]
    · cases h

def buildX (T : Tab) (rd : Rd) (t : TypeId) (parts : List (Nat × Operand)) : Option (List Xv) :=
  match T.ty t, fpartsX rd parts with
  | some i, some ps => match i.desc with
    | .struct fs => match placesX T fs.toList with
      | some l => fillX (fun j => l[j]?) i.zero ps
      | none => none
    | .array _ e => match T.ty e with
      | some j => fillX (fun i => some (i * j.size, j.size)) i.zero ps
      | none => none
    | _ => none
  | _, _ => none
theorem run_build (hT : TabOK P T) (h : RdOK rd E U a) {t : TypeId} {parts : Array (Nat × Operand)} {cs : List Xv} (hb : buildX T rd t parts.toList = some cs) :
    ∃ us, (Instr.build t (parts.map fun x => (x.1, a.eval x.2))).run P w = .ok (.agg us) w ∧ cellsRel E U cs us.toList := by
  unfold buildX at hb
  split at hb
  · rename_i i ps hi hps
    obtain ⟨h1, h2⟩ := fpartsX_rel h hps
    obtain ⟨z, hz, hzc, _⟩ := (hT.ty _ _ hi).zero
    have hzr := zerosA_rel E U hzc
    have hu := (hT.ty _ _ hi).und
    have hpl : (parts.map fun x => (x.1, a.eval x.2)).toList = parts.toList.map fun x => (x.1, a.eval x.2) := Array.toList_map
    split at hb
    · rename_i fs hfs
      split at hb
      · rename_i l hl
        have hb' : fillX (fun j => l.toArray[j]?) i.zero ps = some cs := by simpa using hb
        obtain ⟨us, h3, h4⟩ := fill_rel hzr h1 h2 hb'
        rw [hfs] at hu
        refine ⟨us, ?_, h4⟩
        have hm : ∀ w, (fs.mapM fun f => do pure (f.offset, ← sizeOf f.type) : Sem (Array (Nat × Nat))).run P w = .ok l.toArray w := fun w => by
          rw [← Array.toArray_toList (xs := fs), List.mapM_toArray]
          simp only [Sem.run_map, run_places hT hl, Result.andThen_ok]
        simp only [Instr.build, Sem.run_bind, hz, Result.andThen_ok, run_underlying hu, hm, hpl, h3, Sem.run_pure]
      · cases hb
    · rename_i n e hd
      split at hb
      · rename_i j hj
        obtain ⟨us, h3, h4⟩ := fill_rel hzr h1 h2 hb
        rw [hd] at hu
        refine ⟨us, ?_, h4⟩
        simp only [Instr.build, Sem.run_bind, hz, Result.andThen_ok, run_underlying hu, (hT.ty _ _ hj).size, hpl, h3, Sem.run_pure]
      · cases hb
    · cases hb
  · cases hb
end

/-! ### One operation on values -/
def convV (S D : TypeDesc) (c : Xv) : Option Xv :=
  match S, D, c with
  | _, .int k, .int _ n => some (.int k (k.wrap n))
  | .string, .string, .str s => some (.str s)
  | .pointer _, .pointer _, _ => none
  | _, _, _ => none

def unV (op : UnOp) (c : Xv) : Option Xv :=
  match op, c with
  | .not, .bool b => some (.bool (!b))
  | .neg, .int k n => some (.int k (k.wrap (0 - n)))
  | .xor, .int k n => some (.int k (k.wrap (BitVec.ofInt k.bits (if k.signed then -1 else k.max) ^^^ BitVec.ofInt k.bits n).toNat))
  | _, _ => none

/-- The least capacity that is known. -/
def Cp.least (full : Cp) (len : Nat) : Nat := match full with
  | .ge m => max m len
  | _ => len
def Cp.cut (full : Cp) (len h l : Nat) : Cp := match full with
  | .full => bif h.beq len then .full else .ge (len - l)
  | .ge m => .ge (max m len - l)
  | .any => .ge (len - l)
theorem Cp.least_le {full : Cp} {len cap : Nat} (h : full.ok len cap) (hl : len ≤ cap) : full.least len ≤ cap := by
  cases full with
  | ge m => have : m ≤ cap := h; simp only [Cp.least]; omega
  | _ => exact hl
theorem Cp.len_le (full : Cp) (len : Nat) : len ≤ full.least len := by
  cases full with
  | ge m => simp only [Cp.least]; omega
  | _ => exact Nat.le_refl _
theorem Cp.cut_ok {full : Cp} {len cap h l : Nat} (hk : full.ok len cap) (hl : len ≤ cap) (h1 : l ≤ h) : (full.cut len h l).ok (h - l) (cap - l) := by
  cases full with
  | full =>
    have hk : cap = len := hk
    simp only [Cp.cut]
    cases hb : h.beq len with
    | true => have := Nat.eq_of_beq_eq_true hb; rw [cond_true]; show cap - l = h - l; omega
    | false => rw [cond_false]; show len - l ≤ cap - l; omega
  | ge m => have hk : m ≤ cap := hk; show max m len - l ≤ cap - l; omega
  | any => show len - l ≤ cap - l; omega
def sliceV (T : Tab) (rd : Rd) (t : TypeId) (c : Xv) (lo hi mx : Option Operand) : Option Xv :=
  match T.ty t with
  | none => none
  | some i => match i.desc, c with
    | .string, .str s => match mx with
      | some _ => none
      | none => match bnd rd hi s.length, bnd rd lo 0 with
        | some h, some l => if l ≤ h ∧ h ≤ s.length then some (.str ((s.take h).drop l)) else none
        | _, _ => none
    | .slice e, .nils => match T.ty e, bnd rd mx 0, bnd rd hi 0, bnd rd lo 0 with
      | some _, some m, some h, some l => if m = 0 ∧ h = 0 ∧ l = 0 ∧ (mx.isNone || hi.isSome) = true then some .nils else none
      | _, _, _, _ => none
    | .slice e, .sl n off len k full => match T.ty e with
      | none => none
      | some j => match bnd rd mx (full.least len), bnd rd hi len, bnd rd lo 0 with
        | some m, some h, some l => if l ≤ h ∧ h ≤ m ∧ m ≤ full.least len ∧ j.size = k ∧ (mx.isNone || hi.isSome) = true then
            some (.sl n (off + l * k) (h - l) k (match mx with | some _ => (bif h.beq m then .full else .ge (m - l)) | none => full.cut len h l)) else none
        | _, _, _ => none
    | _, _ => none

def indexV (T : Tab) (t : TypeId) (p : Xp) (n : Int) : Option Xp :=
  match T.ty t with
  | none => none
  | some i => match i.desc, p with
    | .string, .one (.str s) => if 0 ≤ n then (match s[n.toNat]? with | some b => some (.one (.int .u8 b.toNat)) | none => none) else none
    | .array len e, .agg cs => if 0 ≤ n ∧ n < len then (match T.ty e with | some j => partV j.agg j.size (n.toNat * j.size) cs | none => none) else none
    | _, _ => none

def addrV (T : Tab) (t : TypeId) (c : Xv) (n : Int) : Option Xv :=
  match T.ty t with
  | none => none
  | some i => match i.desc, c with
    | .slice e, .sl m off len k _ => match T.ty e with
      | some j => if 0 ≤ n ∧ n < len ∧ j.size = k then some (.ptr m (off + n.toNat * k)) else none
      | none => none
    | .array len e, .ptr m off => match T.ty e with
      | some j => if 0 ≤ n ∧ n < len then some (.ptr m (off + n.toNat * j.size)) else none
      | none => none
    | _, _ => none

def lenV (T : Tab) (t : TypeId) (c : Xv) : Option Nat :=
  match T.ty t with
  | none => none
  | some i => match i.desc, c with
    | .string, .str s => some s.length
    | .slice _, .nils => some 0
    | .slice _, .sl _ _ len _ _ => some len
    | .map _ _, .nilm => some 0
    | .array n _, _ => some n
    | _, _ => none

def capV (T : Tab) (t : TypeId) (c : Xv) : Option Nat :=
  match T.ty t with
  | none => none
  | some i => match i.desc, c with
    | .slice _, .nils => some 0
    | .slice _, .sl _ _ len _ .full => some len
    | _, _ => none

def callV (T : Tab) (rd : Rd) (b : Builtin) (xs : List Operand) (ts : List TypeId) : Option Xv :=
  match b, xs, ts with
  | .len, [x], [t] => match rd.one x with | some c => (lenV T t c).map fun n => .int .i64 n | none => none
  | .cap, [x], [t] => match rd.one x with | some c => (capV T t c).map fun n => .int .i64 n | none => none
  | .max, [x, y], _ => match rd.one x, rd.one y with | some (.int k a), some (.int _ b) => some (.int k (if b > a then b else a)) | _, _ => none
  | .min, [x, y], _ => match rd.one x, rd.one y with | some (.int k a), some (.int _ b) => some (.int k (if b < a then b else a)) | _, _ => none
  | _, _, _ => none

def pureV (T : Tab) (rd : Rd) : Op → Option Xa
  | .move x => rd x
  | .assign x => rd x
  | .pick c x y => match rd.one c with
    | some (.bool b) => if b = true then rd x else rd y
    | _ => none
  | .nilCheck x => match rd.one x with
    | some (.ptr n off) => some (.val (.one (.ptr n off)))
    | some (.fn0 f) => some (.val (.one (.fn0 f)))
    | _ => none
  | .binOp op t x y _ => match rd x, rd y with
    | some (.val p), some (.val q) => match binV T op t x y p q with | some c => some (.val (.one c)) | none => none
    | _, _ => none
  | .unOp op _ x => match rd.one x with
    | some c => match unV op c with | some c => some (.val (.one c)) | none => none
    | none => none
  | .convert s d x => match T.ty s, T.ty d, rd.one x with
    | some i, some j, some c => match convV i.desc j.desc c with | some c => some (.val (.one c)) | none => none
    | _, _, _ => none
  | .extract x i => match rd x with
    | some (.tup l) => match l[i]? with | some p => some (.val p) | none => none
    | _ => none
  | .field t x i => match T.ty t, rd x with
    | some j, some (.val (.agg cs)) => match j.desc with
      | .struct fs => match fs[i]? with
        | some f => match T.ty f.type with
          | some k => match partV k.agg k.size f.offset cs with | some p => some (.val p) | none => none
          | none => none
        | none => none
      | _ => none
    | _, _ => none
  | .index t x y => match rd x, rd.one y with
    | some (.val p), some (.int _ n) => match indexV T t p n with | some p => some (.val p) | none => none
    | _, _ => none
  | .slice t x lo hi mx => match rd.one x with
    | some c => match sliceV T rd t c lo hi mx with | some c => some (.val (.one c)) | none => none
    | none => none
  | .fieldAddr t x i => match T.ty t, rd.one x with
    | some j, some (.ptr n off) => match j.desc with
      | .struct fs => match fs[i]? with
        | some f => match T.ty f.type with
          | some k => bif k.size.beq 0 then none else some (.val (.one (.ptr n (off + f.offset))))
          | none => none
        | none => none
      | _ => none
    | _, _ => none
  | .indexAddr t x y => match rd.one x, rd.one y with
    | some c, some (.int _ n) => match addrV T t c n with | some c => some (.val (.one c)) | none => none
    | _, _ => none
  | .build t parts => match buildX T rd t parts.toList with | some cs => some (.val (.agg cs)) | none => none
  | .makeFunc (.func f) first caps => bif first.isEmpty && caps.isEmpty then some (.val (.one (.fn0 f))) else none
  | .call c => match c.callee with
    | .builtin b => match callV T rd b c.args.toList c.argTypes.toList with | some c => some (.val (.one c)) | none => none
    | _ => none
  | _ => none

section
variable {P : Program} {rd : Rd} {E : Env} {U : Us} {a : Act} {w : World} {T : Tab} {o : Oper}

theorem run_sliceV (hT : TabOK P T) (h : RdOK rd E U a) {t : TypeId} {x : Operand} {c r : Xv} {lo hi mx : Option Operand} (hx : c.rel E U (a.eval x)) (hs : sliceV T rd t c lo hi mx = some r) (ho : o.op = .slice t x lo hi mx) :
    ∃ u, (execOp a.eval o).run P w = .ok (.value u) w ∧ r.rel E U u := by
  have huS : ∀ {i : XT}, T.ty t = some i → P.underlying t = some i.desc := fun hi => (hT.ty _ _ hi).und
  unfold sliceV at hs
  split at hs
  · cases hs
  · rename_i i hi
    have hu := huS hi
    split at hs
    · rename_i s hd
      rw [hd] at hu
      have hx : a.eval x = .string ⟨s.toArray⟩ := hx
      split at hs
      · cases hs
      · split at hs
        · rename_i h' l hh hl
          split at hs
          · rename_i hc
            injection hs with hs; subst hs
            have hsz : (⟨s.toArray⟩ : ByteArray).size = s.length := by simp [ByteArray.size]
            have hb := run_bnds (P := P) (w := w) h (isS := false) (len := s.length) (cap := s.length) (mx := none) (m := s.length) rfl rfl hh hl hc.1 hc.2 (Nat.le_refl _)
            refine ⟨.string ((⟨s.toArray⟩ : ByteArray).extract l h'), ?_, ?_⟩
            · unfold execOp
              simp only [Option.map_none] at hb
              simp only [ho, hx, Instr.sliceAt, Instr.slice, Sem.run_bind, run_underlying hu, Result.andThen_ok, Option.map_none, Option.isSome_none, Bool.false_eq_true, if_false, hsz, hb, Sem.run_pure]
            · show _ = _
              congr 1
              apply ByteArray.ext
              simp only [ByteArray.data_extract, List.extract_toArray, List.extract_eq_take_drop, List.take_drop]
              rw [show l + (h' - l) = h' by omega]
          · cases hs
        · cases hs
    · rename_i e hd
      rw [hd] at hu
      have hx : a.eval x = .slice none 0 0 := hx
      split at hs
      · rename_i j m h' l hj hm hh hl
        split at hs
        · rename_i hc
          obtain ⟨rfl, rfl, rfl, hmn⟩ := hc
          injection hs with hs; subst hs
          have hb := run_bnds (P := P) (w := w) h (isS := true) (len := 0) (cap := 0) (mx := mx) hm hmn hh hl (Nat.le_refl _) (Nat.le_refl _) (Nat.le_refl _)
          refine ⟨.slice none 0 0, ?_, rfl⟩
          unfold execOp
          simp only [ho, hx, Instr.sliceAt, Instr.slice, Sem.run_bind, run_underlying hu, Result.andThen_ok, hb, (hT.ty _ _ hj).size, Sem.run_pure, if_true, Nat.sub_self]
        · cases hs
      · cases hs
    · rename_i e n off len k full hd
      rw [hd] at hu
      obtain ⟨hn, b, o0, o2, cap, e1, e2, e3, e4, e5, e6, e7, e8⟩ := hx
      split at hs
      · cases hs
      · rename_i j hj
        split at hs
        · rename_i m h' l hm hh hl
          split at hs
          · rename_i hc
            obtain ⟨c1, c2, c3, c4, c5⟩ := hc
            injection hs with hs; subst hs
            have hlst := Cp.least_le e8 e4
            have hll := Cp.len_le full len
            have hlk : l * k ≤ cap * k := Nat.mul_le_mul_right _ (by omega)
            cases mx with
            | none =>
              simp only [bnd, Option.some.injEq] at hm; subst hm
              have hb := run_bnds (P := P) (w := w) h (isS := true) (len := len) (cap := cap) (mx := none) (m := cap) rfl c5 hh hl c1 (by omega) (Nat.le_refl _)
              refine ⟨.slice (if cap = l then some ⟨b, o2, none⟩ else some ⟨b, o2 + l * k, none⟩) (h' - l) (cap - l), ?_, ?_⟩
              · unfold execOp
                simp only [ho, e2, Instr.sliceAt, Instr.slice, Sem.run_bind, run_underlying hu, Result.andThen_ok, hb, (hT.ty _ _ hj).size, Sem.run_pure, c4, Option.map_some, add_add]
              · refine ⟨hn, b, o0, if cap = l then o2 else o2 + l * k, cap - l, e1, by split <;> rfl, ?_, by omega, by omega, by split <;> omega, ?_, Cp.cut_ok e8 e4 c1⟩
                · rcases Nat.eq_zero_or_pos (cap - l) with h0 | h0
                  · exact .inl h0
                  · right; rw [if_neg (by omega)]; omega
                · rw [Nat.sub_mul]; split <;> omega
            | some y =>
              have hm' : bnd rd (some y) cap = some m := by simpa [bnd] using hm
              have hb := run_bnds (P := P) (w := w) h (isS := true) (len := len) (cap := cap) (mx := some y) (m := m) hm' c5 hh hl c1 c2 (by omega)
              have hmk : m * k ≤ cap * k := Nat.mul_le_mul_right _ (by omega)
              have hlm : l * k ≤ m * k := Nat.mul_le_mul_right _ (by omega)
              refine ⟨.slice (if m = l then some ⟨b, o2, none⟩ else some ⟨b, o2 + l * k, none⟩) (h' - l) (m - l), ?_, ?_⟩
              · unfold execOp
                simp only [Option.map_some] at hb
                simp only [ho, e2, Instr.sliceAt, Instr.slice, Sem.run_bind, run_underlying hu, Result.andThen_ok, hb, (hT.ty _ _ hj).size, Sem.run_pure, c4, Option.map_some, add_add]
              · refine ⟨hn, b, o0, if m = l then o2 else o2 + l * k, m - l, e1, by split <;> rfl, ?_, by omega, by omega, by split <;> omega, ?_, ?_⟩
                · rcases Nat.eq_zero_or_pos (m - l) with h0 | h0
                  · exact .inl h0
                  · right; rw [if_neg (by omega)]; omega
                · rw [Nat.sub_mul]; split <;> omega
                · show Cp.ok (bif h'.beq m then .full else .ge (m - l)) (h' - l) (m - l)
                  cases hbb : h'.beq m with
                  | true => have := Nat.eq_of_beq_eq_true hbb; rw [cond_true]; show m - l = h' - l; omega
                  | false => rw [cond_false]; show m - l ≤ m - l; omega
          · cases hs
        · cases hs
    · cases hs

theorem run_indexV (hT : TabOK P T) {t : TypeId} {p q : Xp} {k : IntKind} {n : Int} (hs : indexV T t p n = some q) {u : Value} (hp : p.rel E U u) : ∃ z, (Instr.index t u (.int k n)).run P w = .ok z w ∧ q.rel E U z := by
  unfold indexV at hs
  split at hs
  · cases hs
  · rename_i i hi
    have hu := (hT.ty _ _ hi).und
    split at hs
    · rename_i s hd
      rw [hd] at hu
      cases hp
      split at hs
      · rename_i h0
        split at hs
        · rename_i b hb
          injection hs with hs; subst hs
          have hg : (⟨s.toArray⟩ : ByteArray)[n.toNat]? = some b := by
            show (s.toArray)[n.toNat]? = some b
            simpa using hb
          exact ⟨.int .u8 b.toNat, by simp [Instr.index, asIntOf, run_underlying hu, h0, hg], rfl⟩
        · cases hs
      · cases hs
    · rename_i len e cs hd
      rw [hd] at hu
      obtain ⟨vs, rfl, hv⟩ := hp
      split at hs
      · rename_i h0
        split at hs
        · rename_i j hj
          obtain ⟨z, hz, hr⟩ := run_partV (w := w) (hT.ty _ _ hj) hs hv
          exact ⟨z, by simp [Instr.index, asIntOf, run_underlying hu, h0, (hT.ty _ _ hj).size, hz], hr⟩
        · cases hs
      · cases hs
    · cases hs

theorem run_addrV (hT : TabOK P T) {t : TypeId} {c r : Xv} {k : IntKind} {n : Int} (hs : addrV T t c n = some r) {u : Value} (hp : c.rel E U u) : ∃ z, (Instr.indexAt t u (.int k n)).run P w = .ok z w ∧ r.rel E U z := by
  unfold addrV at hs
  split at hs
  · cases hs
  · rename_i i hi
    have hu := (hT.ty _ _ hi).und
    split at hs
    · rename_i e m off len k full hd
      rw [hd] at hu
      obtain ⟨hn, b, o0, o2, cap, e1, rfl, e3, e4, e5, e6, e7, e8⟩ := hp
      split at hs
      · rename_i j hj
        split at hs
        · rename_i hc
          obtain ⟨c1, c2, c3⟩ := hc
          injection hs with hs; subst hs
          have ho2 : o2 = o0 + off := by rcases e3 with h | h; · omega
                                         · exact h
          refine ⟨.pointer (some ⟨b, o2 + n.toNat * k, none⟩), by simp [Instr.indexAt, asIntOf, run_underlying hu, (hT.ty _ _ hj).size, add_add, c1, c2, c3], hn, b, o0, e1, by rw [ho2, Nat.add_assoc]⟩
        · cases hs
      · cases hs
    · rename_i len e m off hd
      rw [hd] at hu
      obtain ⟨hn, b, o0, e1, rfl⟩ := hp
      split at hs
      · rename_i j hj
        split at hs
        · rename_i hc
          injection hs with hs; subst hs
          refine ⟨.pointer (some ⟨b, o0 + off + n.toNat * j.size, none⟩), by simp [Instr.indexAt, asIntOf, run_underlying hu, Instr.sureAddr, (hT.ty _ _ hj).size, add_add, hc], hn, b, o0, e1, by rw [Nat.add_assoc]⟩
        · cases hs
      · cases hs
    · cases hs

theorem run_callV (hT : TabOK P T) (h : RdOK rd E U a) {b : Builtin} {xs : Array Operand} {ts : Array TypeId} {c : Xv} (hs : callV T rd b xs.toList ts.toList = some c) (ho : o.op = .call ⟨.builtin b, xs, ts⟩) :
    ∃ u, (execOp a.eval o).run P w = .ok (.value u) w ∧ c.rel E U u := by
  obtain ⟨xs⟩ := xs
  obtain ⟨ts⟩ := ts
  simp only at hs
  unfold callV at hs
  split at hs
  · rename_i x t
    split at hs
    · rename_i c' hc
      obtain ⟨n, hn, rfl⟩ := Option.map_eq_some_iff.1 hs
      have hx := h.one hc
      refine ⟨.int .i64 n, ?_, rfl⟩
      unfold lenV at hn
      split at hn
      · cases hn
      · rename_i i hi
        have hu := (hT.ty _ _ hi).und
        unfold execOp
        split at hn
        · rename_i s hd; rw [hd] at hu; injection hn with hn; subst hn; have hx : a.eval x = .string ⟨s.toArray⟩ := hx; have hsz : (⟨s.toArray⟩ : ByteArray).size = s.length := by simp [ByteArray.size]
          simp only [ho, resolve, invoke, builtin, Builtin.len_, List.getElem?_toArray, List.getElem?_cons_zero, List.map_toArray, List.map_cons, List.map_nil, Sem.run_bind, Sem.run_pure, Result.andThen_ok, run_underlying hu, hx, goInt, hsz]
        · rename_i hd; rw [hd] at hu; injection hn with hn; subst hn; have hx : a.eval x = _ := hx; simp [ho, resolve, invoke, builtin, Builtin.len_, run_underlying hu, hx, goInt]
        · rename_i hd; rw [hd] at hu; injection hn with hn; subst hn; obtain ⟨_, b, o0, o2, cap, e1, e2, _⟩ := hx; simp [ho, resolve, invoke, builtin, Builtin.len_, run_underlying hu, e2, goInt]
        · rename_i hd; rw [hd] at hu; injection hn with hn; subst hn; have hx : a.eval x = _ := hx; simp [ho, resolve, invoke, builtin, Builtin.len_, run_underlying hu, hx, goInt]
        · rename_i hd; rw [hd] at hu; injection hn with hn; subst hn; simp [ho, resolve, invoke, builtin, Builtin.len_, run_underlying hu, goInt]
        · cases hn
    · cases hs
  · rename_i x t
    split at hs
    · rename_i c' hc
      obtain ⟨n, hn, rfl⟩ := Option.map_eq_some_iff.1 hs
      have hx := h.one hc
      refine ⟨.int .i64 n, ?_, rfl⟩
      unfold capV at hn
      split at hn
      · cases hn
      · rename_i i hi
        have hu := (hT.ty _ _ hi).und
        unfold execOp
        split at hn
        · rename_i hd; rw [hd] at hu; injection hn with hn; subst hn; have hx : a.eval x = _ := hx; simp [ho, resolve, invoke, builtin, Builtin.cap_, run_underlying hu, hx, goInt]
        · rename_i hd; rw [hd] at hu; injection hn with hn; subst hn; obtain ⟨_, b, o0, o2, cap, e1, e2, e3, e4, e5, e6, e7, e8⟩ := hx; have e9 : cap = _ := e8; subst e9; simp [ho, resolve, invoke, builtin, Builtin.cap_, run_underlying hu, e2, goInt]
        · cases hn
    · cases hs
  · rename_i x y
    split at hs
    · rename_i k m j n hm hn
      injection hs with hs; subst hs
      have hx : a.eval x = _ := h.one hm
      have hy : a.eval y = _ := h.one hn
      exact ⟨_, by unfold execOp; simp [ho, resolve, invoke, builtin, Builtin.max_, hx, hy, Builtin.max2], rfl⟩
    · cases hs
  · rename_i x y
    split at hs
    · rename_i k m j n hm hn
      injection hs with hs; subst hs
      have hx : a.eval x = _ := h.one hm
      have hy : a.eval y = _ := h.one hn
      exact ⟨_, by unfold execOp; simp [ho, resolve, invoke, builtin, Builtin.min_, hx, hy, Builtin.min2], rfl⟩
    · cases hs
  · cases hs
end
end -- nc
end Go.Proofs.YtgjbehfdjnekdaaGreatDoor.Xc
end
section
/- Symbolic states: values as data (numbers, strings, slices whose elements are told by a function), and what they mean over the machine. -/
set_option linter.unusedVariables false
set_option linter.unusedSimpArgs false
namespace Go.Proofs.YtgjbehfdjnekdaaGreatDoor.Sy
open Go.RowKit
open Go.Proofs.YtgjbehfdjnekdaaGreatDoor.Aw
open Go.Proofs.YtgjbehfdjnekdaaGreatDoor.Xc (Tab TabOK XT TyOK)

/-- A value of one cell. -/
inductive Sc : Type where
  | int (k : IntKind) (n : Int)
  | bool (b : Bool)
  | str (s : List UInt8)
  | nils
  | nilp
  | nilm
  | nilf
  | nili
  | sl (k n : Nat) (f : Nat → List Sc)
  | pt (cs : List Sc)
  | pr (p : Pred)
  | ref (n off : Nat)
  | el (n i k j : Nat)
  | clo (f : FuncId) (caps : List Sc)
  | any

inductive Sp : Type where
  | one (c : Sc)
  | agg (cs : List Sc)

inductive Sv : Type where
  | val (p : Sp)
  | tup (l : List Sp)
  | opt (b : Bool) (p : Sp)

inductive So : Type where
  | box (T : TypeId) (cs : List Sc)
  | row (T : TypeId) (k n : Nat) (f : Nat → List Sc)

noncomputable section
mutual
def Sc.pred : Sc → Pred
  | .int k n => intP k n
  | .bool b => boolP b
  | .str s => strP ⟨s.toArray⟩
  | .nils => eqP (.slice none 0 0) rfl
  | .nilp => eqP (.pointer none) rfl
  | .nilm => eqP (.map none) rfl
  | .nilf => eqP .nilFunc rfl
  | .nili => eqP .nilIface rfl
  | .sl k n f => elsP k ((List.range n).map fun i => predL (f i))
  | .pt cs => ptrP (predL cs)
  | .pr p => p
  | .ref _ _ => anyP
  | .el _ _ _ _ => anyP
  | .clo _ _ => anyP
  | .any => anyP
def predL : List Sc → List Pred
  | [] => []
  | c :: l => c.pred :: predL l
end

theorem predL_map : ∀ l : List Sc, predL l = l.map Sc.pred
  | [] => by rw [predL]; rfl
  | c :: l => by rw [predL, predL_map l]; rfl

def Sc.cap : Sc → Cap
  | .ref n 0 => .nm n
  | c => .dt c.pred
def Sc.den : Sc → Cell
  | .ref n off => .ref n off
  | .el n i k j => .el n (i * k + j)
  | .clo f l => .clo f (l.map Sc.cap)
  | .any => .any
  | c => .dat c.pred
def Sp.den : Sp → Part
  | .one c => .one c.den
  | .agg cs => .agg (cs.map Sc.den)
def Sv.den : Sv → AV
  | .val p => .val p.den
  | .tup l => .tup (l.map Sp.den)
  | .opt b p => .opt b p.den
def els (n : Nat) (f : Nat → List Sc) : List (List Pred) := (List.range n).map fun i => predL (f i)
def So.den : So → Ob
  | .box T cs => .box T (cs.map Sc.den)
  | .row T k n f => .row T k (els n f)

structure SS where
  sl : List (Nat × Sv)
  ob : List (Nat × So)
def SS.den (σ : SS) : St := ⟨σ.sl.map fun x => (x.1, x.2.den), σ.ob.map fun x => (x.1, x.2.den)⟩

/-- Look-ups. -/
def lk {β : Type} (n : Nat) : List (Nat × β) → Option β
  | [] => none
  | (m, x) :: l => bif n.beq m then some x else lk n l
theorem look_lk {β γ : Type} {g : β → γ} {n : Nat} : ∀ {l : List (Nat × β)}, Aw.look n (l.map fun x => (x.1, g x.2)) = (lk n l).map g
  | [] => rfl
  | (m, x) :: l => by
    simp only [List.map_cons, look_cons, lk]
    by_cases h : n = m
    · subst h; simp
    · have hb : n.beq m = false := by cases hb : n.beq m with | false => rfl | true => exact absurd (Nat.eq_of_beq_eq_true hb) h
      rw [if_neg h, hb, cond_false, look_lk]
theorem look_sl {σ : SS} {t : Nat} {v : Sv} (h : lk t σ.sl = some v) : Aw.look t σ.den.sl = some v.den := by
  show Aw.look t (σ.sl.map fun x => (x.1, x.2.den)) = _
  rw [look_lk, h]; rfl
theorem look_ob {σ : SS} {t : Nat} {v : So} (h : lk t σ.ob = some v) : Aw.look t σ.den.ob = some v.den := by
  show Aw.look t (σ.ob.map fun x => (x.1, x.2.den)) = _
  rw [look_lk, h]; rfl

/-- τ knows at least what σ says. -/
structure SubS (σ : SS) (τ : St) : Prop where
  sl : ∀ t v, lk t σ.sl = some v → Aw.look t τ.sl = some v.den
  ob : ∀ n x, lk n σ.ob = some x → Aw.look n τ.ob = some x.den
theorem SubS.rfl' (σ : SS) : SubS σ σ.den := ⟨fun _ _ h => look_sl h, fun _ _ h => look_ob h⟩

theorem els_length (n : Nat) (f : Nat → List Sc) : (els n f).length = n := by simp [els]
theorem els_at {n : Nat} {f : Nat → List Sc} {i : Nat} (h : i < n) : (els n f)[i]? = some (predL (f i)) := by
  unfold els; rw [List.getElem?_map, List.getElem?_range h]; rfl
theorem els_congr {n : Nat} {f g : Nat → List Sc} (h : ∀ i, i < n → f i = g i) : els n f = els n g := by
  unfold els
  refine List.map_congr_left fun i hi => ?_
  rw [h i (by simpa using hi)]
theorem els_zero (f : Nat → List Sc) : els 0 f = [] := rfl
theorem els_succ (n : Nat) (f : Nat → List Sc) : els (n + 1) f = els n f ++ [predL (f n)] := by
  unfold els; rw [List.range_succ, List.map_append]; rfl
theorem els_append (n m : Nat) (f g : Nat → List Sc) : els n f ++ els m g = els (n + m) (fun i => if i < n then f i else g (i - n)) := by
  refine List.ext_getElem? fun i => ?_
  rcases Nat.lt_or_ge i n with h | h
  · rw [List.getElem?_append_left (by rw [els_length]; exact h), els_at h, els_at (by omega), if_pos h]
  · rw [List.getElem?_append_right (by rw [els_length]; exact h), els_length]
    rcases Nat.lt_or_ge i (n + m) with h2 | h2
    · rw [els_at (by omega), els_at h2, if_neg (by omega)]
    · rw [List.getElem?_eq_none (by rw [els_length]; omega), List.getElem?_eq_none (by rw [els_length]; omega)]

def constS : Value → Option Sc
  | .int k n => some (.int k n)
  | .bool b => some (.bool b)
  | .string s => some (.str s.data.toList)
  | .pointer none => some .nilp
  | .slice none 0 0 => some .nils
  | .map none => some .nilm
  | .nilFunc => some .nilf
  | .nilIface => some .nili
  | _ => none
def opd (sl : List (Nat × Sv)) : Operand → Option Sv
  | .tmp t => lk t sl
  | .const v => (constS v).map fun c => .val (.one c)
  | .func f => some (.val (.one (.clo f [])))
  | _ => none
theorem ba_data (s : ByteArray) : (⟨s.data.toList.toArray⟩ : ByteArray) = s := by cases s; simp
theorem opd_den {σ : SS} {τ : St} (hs : SubS σ τ) {x : Operand} {v : Sv} (h : opd σ.sl x = some v) : τ.opd x = some v.den := by
  unfold opd at h
  split at h
  · exact hs.sl _ _ h
  · rename_i v'
    obtain ⟨c, hc, rfl⟩ := Option.map_eq_some_iff.1 h
    unfold constS at hc
    split at hc
    all_goals first
      | (injection hc with hc; subst hc; rfl)
      | (injection hc with hc; subst hc; rename_i s; show some _ = some _; unfold St.opd; simp only [Sv.den, Sp.den, Sc.den, Sc.pred, ba_data])
      | cases hc
  · injection h with h; subst h; rfl
  · cases h
end
end Go.Proofs.YtgjbehfdjnekdaaGreatDoor.Sy
end
