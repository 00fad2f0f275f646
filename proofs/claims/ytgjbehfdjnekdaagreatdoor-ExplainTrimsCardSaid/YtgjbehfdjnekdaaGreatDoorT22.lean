/- Parts of the proof of one statement: Xc14, Xq, Xp. -/
import Derived.Test.YtgjbehfdjnekdaaGreatDoorT21
set_option linter.all false
section
/- A closed run: one operation of whatever kind. -/
set_option linter.unusedVariables false
set_option linter.unusedSimpArgs false
namespace Go.Proofs.YtgjbehfdjnekdaaGreatDoor.Xc
noncomputable section
open Go.RowKit
open Go.Proofs.YtgjbehfdjnekdaaGreatDoor.Aw (Kept nlt nle getD_put op_steps kept_drew edges Lin ancOK)

def one1 (e : Option Eff) : Option (List Eff) := match e with | some e => some [e] | none => none

def valE (d lo : Nat) (x : Option Xa) : Option (List Eff) := match x with | some x => some [⟨[], [], some (d, x), [], [], lo⟩] | none => none

def memC (T : Tab) (call : CallF) (d : Nat) (o : Oper) (μ : XS) (lo : Nat) : Option (List Eff) :=
  match o.op with
  | .load t x => match T.ty t, μ.opd x with
    | some i, some (.val (.one (.ptr n off))) => match cellAt μ n off i.agg i.size with | some p => some [⟨[], [], some (d, .val p), [], [], lo⟩] | none => none
    | _, _ => none
  | .alloc t => match T.ty t with | some i => some [⟨[], [], some (d, .val (.one (.ptr lo 0))), [], [(lo, .cells t i.zero)], lo + 1⟩] | none => none
  | .box t x => match μ.opd x with | some (.val p) => some [⟨[], [], some (d, .val (.one (.ptr lo 0))), [], [(lo, .cells t p.cells)], lo + 1⟩] | _ => none
  | .makeFunc (.func f) first caps => match onesX μ.opd first.toList, onesX μ.opd caps.toList with
    | some cs, some ds => some [⟨[], [], some (d, .val (.one (.fnv lo))), [], [(lo, .fn f cs ds)], lo + 1⟩]
    | _, _ => none
  | .buildSlice t len parts => one1 (litE T μ d lo t len parts.toList)
  | .makeSlice t x y => match μ.opd x, μ.opd y with | some (.val (.one (.int _ len))), some (.val (.one (.int _ cap))) => one1 (makeE T d lo t len cap) | _, _ => none
  | .makeMap _ none => some [⟨[], [], some (d, .val (.one (.map lo))), [], [(lo, .mp [] 0)], lo + 1⟩]
  | .lookup t x y ok => match μ.opd x, μ.opd y with
    | some (.val (.one m)), some (.val key) => match lookE T μ t m key ok with | some r => some [⟨[], [], some (d, r), [], [], lo⟩] | none => none
    | _, _ => none
  | .range t x => match μ.opd x with | some (.val (.one c)) => one1 (rangeE T μ d lo t c) | _ => none
  | .next x isS => match μ.opd x with | some (.val (.one c)) => nextE μ d lo c isS | _ => none
  | .entry x => match μ.opd x with | some (.val (.one c)) => valE d lo (entE μ c) | _ => none
  | .call ⟨.builtin .append, xs, ts⟩ => match xs.toList, ts.toList with
    | [x, y], [t, t2] => match μ.opd x, μ.opd y with | some (.val (.one c)), some (.val (.one c2)) => one1 (appE T μ d lo t t2 c c2) | _, _ => none
    | _, _ => none
  | .call ⟨.builtin .len, xs, ts⟩ => match xs.toList, ts.toList with
    | [x], [t] => match μ.opd x, T.ty t with
      | some (.val (.one (.map n))), some i => match i.desc, Aw.look n μ.ob with
        | .map _ _, some (.mp es _) => some [⟨[], [], some (d, .val (.one (.int .i64 es.length))), [], [], lo⟩]
        | _, _ => none
      | _, _ => none
    | _, _ => none
  | .call ⟨.value g, xs, _⟩ => callE T call μ lo (some d) g xs.toList
  | _ => none

def nodC (T : Tab) (call : CallF) (o : Oper) (μ : XS) (lo : Nat) : Option (List Eff) :=
  match o.op with
  | .store t x y => match T.ty t, μ.opd x, μ.opd y with
    | some i, some (.val (.one (.ptr n off))), some (.val p) => match Aw.look n μ.ob with
      | some (.cells t' cs) => bif p.cells.length.beq i.size && (off + i.size).ble cs.length then some [⟨[], [], none, [n], [(n, .cells t' (setL cs off p.cells))], lo⟩] else none
      | _ => none
    | _, _, _ => none
  | .mapUpdate t m k v => match μ.opd m, μ.opd k, μ.opd v with | some (.val (.one m)), some (.val key), some (.val val) => one1 (updE T μ lo t m key val) | _, _, _ => none
  | .insert t m k v => match μ.opd m, μ.opd k, μ.opd v with | some (.val (.one m)), some (.val key), some (.val val) => one1 (updE T μ lo t m key val) | _, _, _ => none
  | .call ⟨.value g, xs, _⟩ => callE T call μ lo none g xs.toList
  | _ => none

def opC (T : Tab) (call : CallF) (N : Nat) (o : Oper) (μ : XS) (lo : Nat) : Option (List Eff) :=
  match o.dst with
  | some d => bif N.ble d then none else match pureV T μ.opd o.op with
    | some x => some [⟨[], [], some (d, x), [], [], lo⟩]
    | none => memC T call d o μ lo
  | none => nodC T call o μ lo

section
variable {P : Program} {X : Ctx} {U : Us} {σ μ : XS} {o : Oper} {d lo : Nat} {T : Tab} {call : CallF}

theorem one1_some {e : Option Eff} {es : List Eff} (h : one1 e = some es) : ∃ x, e = some x ∧ es = [x] := by
  cases e with
  | none => cases h
  | some x => injection h with h; exact ⟨x, rfl, h.symm⟩
theorem arr1 {α : Type} {a : Array α} {x : α} (h : a.toList = [x]) : a = #[x] := by cases a; simp at h; subst h; rfl
theorem arr2 {α : Type} {a : Array α} {x y : α} (h : a.toList = [x, y]) : a = #[x, y] := by cases a; simp at h; subst h; rfl

theorem lit_hi {t : TypeId} {len : Nat} {ps : List (Nat × Operand)} {e : Eff} (h : litE T μ d lo t len ps = some e) : e.hi = lo + 1 := by
  unfold litE at h
  repeat' split at h
  all_goals first | (injection h with h; subst h; rfl) | cases h
theorem make_hi {t : TypeId} {a b : Int} {e : Eff} (h : makeE T d lo t a b = some e) : e.hi = lo + 1 := by
  unfold makeE at h
  repeat' split at h
  all_goals first | (injection h with h; subst h; rfl) | cases h
theorem range_hi {t : TypeId} {c : Xv} {e : Eff} (h : rangeE T μ d lo t c = some e) : e.hi = lo + 1 := by
  unfold rangeE at h
  repeat' split at h
  all_goals first | (injection h with h; subst h; rfl) | cases h

theorem memC_ok (hT : TabOK P T) (hc : CallOK P call) {es : List Eff} (h : memC T call d o μ lo = some es) (hs : Sub μ σ) (hd : o.dst = some d) (hN : d < X.N) (hfr : ∀ e ∈ es, ∀ n, lo ≤ n → n < e.hi → ¬ U n) : StepS P X o U σ lo es := by
  unfold memC at h
  split at h
  · rename_i t x ho
    split at h
    · rename_i i n off hi hx
      split at h
      · rename_i p hp; injection h with h; subst h; exact step_load hT hs hi hx hp ho hd hN
      · cases h
    · cases h
  · rename_i t ho
    split at h
    · rename_i i hi; injection h with h; subst h; exact step_alloc hT hi ho hd hN (hfr _ (List.mem_singleton.2 rfl) lo (Nat.le_refl _) (Nat.lt_succ_self _))
    · cases h
  · rename_i t x ho
    split at h
    · rename_i p hp; injection h with h; subst h; exact step_box hs hp ho hd hN (hfr _ (List.mem_singleton.2 rfl) lo (Nat.le_refl _) (Nat.lt_succ_self _))
    · cases h
  · rename_i f first caps ho
    split at h
    · rename_i cs ds h1 h2; injection h with h; subst h; exact step_func hs h1 h2 ho hd hN (hfr _ (List.mem_singleton.2 rfl) lo (Nat.le_refl _) (Nat.lt_succ_self _))
    · cases h
  · rename_i t len parts ho
    obtain ⟨e, he, rfl⟩ := one1_some h
    exact step_lit hT hs he ho hd hN (hfr _ (List.mem_singleton.2 rfl) lo (Nat.le_refl _) (by rw [lit_hi he]; omega))
  · rename_i t x y ho
    split at h
    · rename_i k len k' cap hx hy
      obtain ⟨e, he, rfl⟩ := one1_some h
      exact step_make hT hs hx hy he ho hd hN (hfr _ (List.mem_singleton.2 rfl) lo (Nat.le_refl _) (by rw [make_hi he]; omega))
    · cases h
  · rename_i t ho
    injection h with h; subst h
    exact step_makeMap ho hd hN (hfr _ (List.mem_singleton.2 rfl) lo (Nat.le_refl _) (Nat.lt_succ_self _))
  · rename_i t x y ok ho
    split at h
    · rename_i m key hx hy
      split at h
      · rename_i r hr; injection h with h; subst h; exact step_lookup hT hs hx hy hr ho hd hN
      · cases h
    · cases h
  · rename_i t x ho
    split at h
    · rename_i c hx
      obtain ⟨e, he, rfl⟩ := one1_some h
      exact step_range hT hs hx he ho hd hN (hfr _ (List.mem_singleton.2 rfl) lo (Nat.le_refl _) (by rw [range_hi he]; omega))
    · cases h
  · rename_i x isS ho
    split at h
    · rename_i c hx; exact step_next hs hx h ho hd hN
    · cases h
  · rename_i x ho
    split at h
    · rename_i c hx
      unfold valE at h
      split at h
      · rename_i r hr; injection h with h; subst h; exact step_entry hs hx hr ho hd hN
      · cases h
    · cases h
  · rename_i xs ts ho
    split at h
    · rename_i x y t t2 hxs hts
      rw [arr2 hxs, arr2 hts] at ho
      split at h
      · rename_i c c2 hx hy
        obtain ⟨e, he, rfl⟩ := one1_some h
        exact step_append hT hs hx hy he ho hd hN fun hl => hfr _ (List.mem_singleton.2 rfl) lo (Nat.le_refl _) hl
      · cases h
    · cases h
  · rename_i xs ts ho
    split at h
    · rename_i x t hxs hts
      rw [arr1 hxs, arr1 hts] at ho
      split at h
      · rename_i n i hx hi
        split at h
        · rename_i k e es' clock hdesc hl
          injection h with h; subst h
          exact step_lenMap hT hs hi hdesc hx hl ho hd hN
        · cases h
      · cases h
    · cases h
  · rename_i g xs ts ho
    exact step_call hT hc hs (by rw [hd]; exact h) ho (fun d' h' => by rw [hd] at h'; injection h' with h'; subst h'; exact hN) hfr
  · cases h

theorem nodC_ok (hT : TabOK P T) (hc : CallOK P call) {es : List Eff} (h : nodC T call o μ lo = some es) (hs : Sub μ σ) (hd : o.dst = none) (hfr : ∀ e ∈ es, ∀ n, lo ≤ n → n < e.hi → ¬ U n) : StepS P X o U σ lo es := by
  unfold nodC at h
  split at h
  · rename_i t x y ho
    split at h
    · rename_i i n off p hi hx hy
      split at h
      · rename_i t' cs hl
        cases hb : p.cells.length.beq i.size && (off + i.size).ble cs.length with
        | false => rw [hb, cond_false] at h; cases h
        | true =>
          rw [hb, cond_true] at h; injection h with h; subst h
          simp only [Bool.and_eq_true] at hb
          exact step_store hT hs hi hx hy hl (Nat.eq_of_beq_eq_true hb.1) (Nat.le_of_ble_eq_true hb.2) ho hd
      · cases h
    · cases h
  · rename_i t m k v ho
    split at h
    · rename_i m' key val hm hk hv
      obtain ⟨e, he, rfl⟩ := one1_some h
      exact run_updE hT hs hm hk hv he (fun a w w' hr => by unfold execOp; simp only [ho, hr, Sem.run_bind, Result.andThen_ok, Sem.run_pure]) hd
    · cases h
  · rename_i t m k v ho
    split at h
    · rename_i m' key val hm hk hv
      obtain ⟨e, he, rfl⟩ := one1_some h
      exact run_updE hT hs hm hk hv he (fun a w w' hr => by unfold execOp; simp only [ho, hr, Sem.run_bind, Result.andThen_ok, Sem.run_pure]) hd
    · cases h
  · rename_i g xs ts ho
    exact step_call hT hc hs (by rw [hd]; exact h) ho (fun d' h' => by rw [hd] at h'; cases h') hfr
  · cases h

theorem opC_ok (hT : TabOK P T) (hc : CallOK P call) {N : Nat} (hN : X.N = N) {es : List Eff} (h : opC T call N o μ lo = some es) (hs : Sub μ σ) (hfr : ∀ e ∈ es, ∀ n, lo ≤ n → n < e.hi → ¬ U n) : StepS P X o U σ lo es := by
  unfold opC at h
  split at h
  · rename_i d hd
    cases hb : N.ble d with
    | true => rw [hb, cond_true] at h; cases h
    | false =>
      rw [hb, cond_false] at h
      have hdN : d < X.N := by
        rw [hN]
        rcases Nat.lt_or_ge d N with h' | h'
        · exact h'
        · rw [Nat.ble_eq_true_of_le h'] at hb; cases hb
      split at h
      · rename_i x hx
        injection h with h; subst h
        exact step_val hd hdN fun E a w hr => run_pureV hT (hs.rd hr) hx
      · exact memC_ok hT hc h hs hd hdN hfr
  · rename_i hd
    exact nodC_ok hT hc h hs hd hfr
end
end -- nc
end Go.Proofs.YtgjbehfdjnekdaaGreatDoor.Xc
end
section
/- A closed run: one operation, told in small pieces (what the kernel unfolds at each step is short). -/
set_option linter.unusedVariables false
set_option linter.unusedSimpArgs false
namespace Go.Proofs.YtgjbehfdjnekdaaGreatDoor.Xc
noncomputable section
open Go.RowKit

def q_val (x : Option Xv) : Option Xa := match x with | some c => some (.val (.one c)) | none => none
def q_valp (x : Option Xp) : Option Xa := match x with | some c => some (.val c) | none => none
def q_pick (rd : Rd) (c x y : Operand) : Option Xa := match rd.one c with
    | some (.bool b) => if b = true then rd x else rd y
    | _ => none
def q_nil (rd : Rd) (x : Operand) : Option Xa := match rd.one x with
    | some (.ptr n off) => some (.val (.one (.ptr n off)))
    | some (.fn0 f) => some (.val (.one (.fn0 f)))
    | _ => none
def q_bin (T : Tab) (rd : Rd) (op : BinOp) (t : TypeId) (x y : Operand) : Option Xa := match rd x, rd y with
    | some (.val p), some (.val q) => q_val (binV T op t x y p q)
    | _, _ => none
def q_un (rd : Rd) (op : UnOp) (x : Operand) : Option Xa := match rd.one x with
    | some c => q_val (unV op c)
    | none => none
def q_conv (T : Tab) (rd : Rd) (s d : TypeId) (x : Operand) : Option Xa := match T.ty s, T.ty d, rd.one x with
    | some i, some j, some c => q_val (convV i.desc j.desc c)
    | _, _, _ => none
def q_ext (rd : Rd) (x : Operand) (i : Nat) : Option Xa := match rd x with
    | some (.tup l) => q_valp l[i]?
    | _ => none
def q_fld1 (T : Tab) (i : Nat) (cs : List Xv) : TypeDesc → Option Xa
      | .struct fs => match fs[i]? with
        | some f => match T.ty f.type with
          | some k => q_valp (partV k.agg k.size f.offset cs)
          | none => none
        | none => none
      | _ => none
def q_fld (T : Tab) (rd : Rd) (t : TypeId) (x : Operand) (i : Nat) : Option Xa := match T.ty t, rd x with
    | some j, some (.val (.agg cs)) => q_fld1 T i cs j.desc
    | _, _ => none
def q_idx (T : Tab) (rd : Rd) (t : TypeId) (x y : Operand) : Option Xa := match rd x, rd.one y with
    | some (.val p), some (.int _ n) => q_valp (indexV T t p n)
    | _, _ => none
def q_slc (T : Tab) (rd : Rd) (t : TypeId) (x : Operand) (lo hi mx : Option Operand) : Option Xa := match rd.one x with
    | some c => q_val (sliceV T rd t c lo hi mx)
    | none => none
def q_fad1 (T : Tab) (i n off : Nat) : TypeDesc → Option Xa
      | .struct fs => match fs[i]? with
        | some f => match T.ty f.type with
          | some k => bif k.size.beq 0 then none else some (.val (.one (.ptr n (off + f.offset))))
          | none => none
        | none => none
      | _ => none
def q_fad (T : Tab) (rd : Rd) (t : TypeId) (x : Operand) (i : Nat) : Option Xa := match T.ty t, rd.one x with
    | some j, some (.ptr n off) => q_fad1 T i n off j.desc
    | _, _ => none
def q_iad (T : Tab) (rd : Rd) (t : TypeId) (x y : Operand) : Option Xa := match rd.one x, rd.one y with
    | some c, some (.int _ n) => q_val (addrV T t c n)
    | _, _ => none
def q_bld (T : Tab) (rd : Rd) (t : TypeId) (parts : List (Nat × Operand)) : Option Xa := match buildX T rd t parts with | some cs => some (.val (.agg cs)) | none => none
def q_fun (f : FuncId) (first caps : Array Operand) : Option Xa := bif first.isEmpty && caps.isEmpty then some (.val (.one (.fn0 f))) else none
def q_call (T : Tab) (rd : Rd) (c : Call) : Option Xa := match c.callee with
    | .builtin b => q_val (callV T rd b c.args.toList c.argTypes.toList)
    | _ => none
def pureQ (T : Tab) (rd : Rd) : Op → Option Xa
  | .move x => rd x
  | .assign x => rd x
  | .pick c x y => q_pick rd c x y
  | .nilCheck x => q_nil rd x
  | .binOp op t x y _ => q_bin T rd op t x y
  | .unOp op _ x => q_un rd op x
  | .convert s d x => q_conv T rd s d x
  | .extract x i => q_ext rd x i
  | .field t x i => q_fld T rd t x i
  | .index t x y => q_idx T rd t x y
  | .slice t x lo hi mx => q_slc T rd t x lo hi mx
  | .fieldAddr t x i => q_fad T rd t x i
  | .indexAddr t x y => q_iad T rd t x y
  | .build t parts => q_bld T rd t parts.toList
  | .makeFunc (.func f) first caps => q_fun f first caps
  | .call c => q_call T rd c
  | _ => none
theorem pureQ_eq (T : Tab) (rd : Rd) (op : Op) : pureQ T rd op = pureV T rd op := by
  cases op with
  | makeFunc f a b => cases f <;> rfl
  | _ => rfl

def m_load (T : Tab) (d : Nat) (μ : XS) (lo : Nat) (t : TypeId) (x : Operand) : Option (List Eff) := match T.ty t, μ.opd x with
    | some i, some (.val (.one (.ptr n off))) => match cellAt μ n off i.agg i.size with | some p => some [⟨[], [], some (d, .val p), [], [], lo⟩] | none => none
    | _, _ => none
def m_alloc (T : Tab) (d lo : Nat) (t : TypeId) : Option (List Eff) := match T.ty t with | some i => some [⟨[], [], some (d, .val (.one (.ptr lo 0))), [], [(lo, .cells t i.zero)], lo + 1⟩] | none => none
def m_box (d : Nat) (μ : XS) (lo : Nat) (t : TypeId) (x : Operand) : Option (List Eff) := match μ.opd x with | some (.val p) => some [⟨[], [], some (d, .val (.one (.ptr lo 0))), [], [(lo, .cells t p.cells)], lo + 1⟩] | _ => none
def m_func (d : Nat) (μ : XS) (lo : Nat) (f : FuncId) (first caps : Array Operand) : Option (List Eff) := match onesX μ.opd first.toList, onesX μ.opd caps.toList with
    | some cs, some ds => some [⟨[], [], some (d, .val (.one (.fnv lo))), [], [(lo, .fn f cs ds)], lo + 1⟩]
    | _, _ => none
def m_make (T : Tab) (d : Nat) (μ : XS) (lo : Nat) (t : TypeId) (x y : Operand) : Option (List Eff) := match μ.opd x, μ.opd y with | some (.val (.one (.int _ len))), some (.val (.one (.int _ cap))) => one1 (makeE T d lo t len cap) | _, _ => none
def m_look (T : Tab) (d : Nat) (μ : XS) (lo : Nat) (t : TypeId) (x y : Operand) (ok : Bool) : Option (List Eff) := match μ.opd x, μ.opd y with
    | some (.val (.one m)), some (.val key) => match lookE T μ t m key ok with | some r => some [⟨[], [], some (d, r), [], [], lo⟩] | none => none
    | _, _ => none
def m_range (T : Tab) (d : Nat) (μ : XS) (lo : Nat) (t : TypeId) (x : Operand) : Option (List Eff) := match μ.opd x with | some (.val (.one c)) => one1 (rangeE T μ d lo t c) | _ => none
def m_next (d : Nat) (μ : XS) (lo : Nat) (x : Operand) (isS : Bool) : Option (List Eff) := match μ.opd x with | some (.val (.one c)) => nextE μ d lo c isS | _ => none
def m_entry (d : Nat) (μ : XS) (lo : Nat) (x : Operand) : Option (List Eff) := match μ.opd x with | some (.val (.one c)) => valE d lo (entE μ c) | _ => none
def m_app (T : Tab) (d : Nat) (μ : XS) (lo : Nat) (xs : List Operand) (ts : List TypeId) : Option (List Eff) := match xs, ts with
    | [x, y], [t, t2] => match μ.opd x, μ.opd y with | some (.val (.one c)), some (.val (.one c2)) => one1 (appE T μ d lo t t2 c c2) | _, _ => none
    | _, _ => none
def m_len (T : Tab) (d : Nat) (μ : XS) (lo : Nat) (xs : List Operand) (ts : List TypeId) : Option (List Eff) := match xs, ts with
    | [x], [t] => match μ.opd x, T.ty t with
      | some (.val (.one (.map n))), some i => match i.desc, Aw.look n μ.ob with
        | .map _ _, some (.mp es _) => some [⟨[], [], some (d, .val (.one (.int .i64 es.length))), [], [], lo⟩]
        | _, _ => none
      | _, _ => none
    | _, _ => none
def memQ (T : Tab) (call : CallF) (d : Nat) (op : Op) (μ : XS) (lo : Nat) : Option (List Eff) :=
  match op with
  | .load t x => m_load T d μ lo t x
  | .alloc t => m_alloc T d lo t
  | .box t x => m_box d μ lo t x
  | .makeFunc (.func f) first caps => m_func d μ lo f first caps
  | .buildSlice t len parts => one1 (litE T μ d lo t len parts.toList)
  | .makeSlice t x y => m_make T d μ lo t x y
  | .makeMap _ none => some [⟨[], [], some (d, .val (.one (.map lo))), [], [(lo, .mp [] 0)], lo + 1⟩]
  | .lookup t x y ok => m_look T d μ lo t x y ok
  | .range t x => m_range T d μ lo t x
  | .next x isS => m_next d μ lo x isS
  | .entry x => m_entry d μ lo x
  | .call ⟨.builtin .append, xs, ts⟩ => m_app T d μ lo xs.toList ts.toList
  | .call ⟨.builtin .len, xs, ts⟩ => m_len T d μ lo xs.toList ts.toList
  | .call ⟨.value g, xs, _⟩ => callE T call μ lo (some d) g xs.toList
  | _ => none
theorem memQ_eq (T : Tab) (call : CallF) (d : Nat) (o : Oper) (μ : XS) (lo : Nat) : memQ T call d o.op μ lo = memC T call d o μ lo := by
  unfold memC
  cases o.op with
  | makeFunc f a b => cases f <;> rfl
  | makeMap t x => cases x <;> rfl
  | call c =>
    obtain ⟨g, xs, ts⟩ := c
    cases g with
    | value g => rfl
    | builtin b => cases b <;> rfl
    | _ => rfl
  | _ => rfl

def n_store2 (μ : XS) (lo n off : Nat) (size : Nat) (p : Xp) : Option (List Eff) := match Aw.look n μ.ob with
      | some (.cells t' cs) => bif p.cells.length.beq size && (off + size).ble cs.length then some [⟨[], [], none, [n], [(n, .cells t' (setL cs off p.cells))], lo⟩] else none
      | _ => none
def n_store (T : Tab) (μ : XS) (lo : Nat) (t : TypeId) (x y : Operand) : Option (List Eff) := match T.ty t, μ.opd x, μ.opd y with
    | some i, some (.val (.one (.ptr n off))), some (.val p) => n_store2 μ lo n off i.size p
    | _, _, _ => none
def n_upd (T : Tab) (μ : XS) (lo : Nat) (t : TypeId) (m k v : Operand) : Option (List Eff) := match μ.opd m, μ.opd k, μ.opd v with | some (.val (.one m)), some (.val key), some (.val val) => one1 (updE T μ lo t m key val) | _, _, _ => none
def nodQ (T : Tab) (call : CallF) (op : Op) (μ : XS) (lo : Nat) : Option (List Eff) :=
  match op with
  | .store t x y => n_store T μ lo t x y
  | .mapUpdate t m k v => n_upd T μ lo t m k v
  | .insert t m k v => n_upd T μ lo t m k v
  | .call ⟨.value g, xs, _⟩ => callE T call μ lo none g xs.toList
  | _ => none
theorem nodQ_eq (T : Tab) (call : CallF) (o : Oper) (μ : XS) (lo : Nat) : nodQ T call o.op μ lo = nodC T call o μ lo := by
  unfold nodC
  cases o.op with
  | call c =>
    obtain ⟨g, xs, ts⟩ := c
    cases g <;> rfl
  | _ => rfl

def orMem (T : Tab) (call : CallF) (d : Nat) (op : Op) (μ : XS) (lo : Nat) (x : Option Xa) : Option (List Eff) := match x with
    | some x => some [⟨[], [], some (d, x), [], [], lo⟩]
    | none => memQ T call d op μ lo
def opQ (T : Tab) (call : CallF) (N : Nat) (o : Oper) (μ : XS) (lo : Nat) : Option (List Eff) :=
  match o.dst with
  | some d => bif N.ble d then none else orMem T call d o.op μ lo (pureQ T μ.opd o.op)
  | none => nodQ T call o.op μ lo
theorem opQ_eq (T : Tab) (call : CallF) (N : Nat) (o : Oper) (μ : XS) (lo : Nat) : opQ T call N o μ lo = opC T call N o μ lo := by
  unfold opQ opC
  cases o.dst with
  | none => exact nodQ_eq T call o μ lo
  | some d =>
    simp only [pureQ_eq]
    cases N.ble d with
    | true => rfl
    | false =>
      simp only [cond_false]
      cases pureV T μ.opd o.op with
      | some x => rfl
      | none => exact memQ_eq T call d o μ lo
end -- nc
end Go.Proofs.YtgjbehfdjnekdaaGreatDoor.Xc
end
section
/- A closed run: clear and copy (a row of cells written in place). -/
set_option linter.unusedVariables false
set_option linter.unusedSimpArgs false
namespace Go.Proofs.YtgjbehfdjnekdaaGreatDoor.Xc
noncomputable section
open Go.RowKit
open Go.Proofs.YtgjbehfdjnekdaaGreatDoor.Aw (Kept nlt nle retv getD_put add_add kept_alloc kept_setRow kept_drew)

section
variable {P : Program} {X : Ctx} {U : Us} {σ μ : XS} {o : Oper} {d lo : Nat} {T : Tab} {E : Env} {a : Act} {w : World}

/-- Values are written into an object of the run's own. -/
theorem RI.poke (h : RI X E U σ a w) {n off b o0 : Nat} {t' : TypeId} {cs new : List Xv} {us : List Value} (hlook : Aw.look n σ.ob = some (.cells t' cs)) (e1 : E.ι n = .pointer (some ⟨b, o0, none⟩)) (hr : cellsRel E U new us) (hk : off + new.length ≤ cs.length) :
    ∃ w', (storeCells ⟨b, o0 + off, none⟩ us).run P w = .ok () w' ∧ RI X E U ⟨σ.sl, [(n, .cells t' (setL cs off new))] ++ dels [n] σ.ob⟩ a w' := by
  obtain ⟨hn, b', o', vs, e1', e3, e4, e5, e6⟩ := h.heap.rel n _ hlook
  rw [e1] at e1'; simp only [Value.pointer.injEq, Option.some.injEq, Addr.mk.injEq, and_true] at e1'
  obtain ⟨rfl, rfl⟩ := e1'
  have hlen : us.length = new.length := hr.1.symm
  have hst := run_storeCells_at P b (o0 + off) t' us 0 vs w e3 (by omega) fun v hv => by
    obtain ⟨j, hj, rfl⟩ := List.getElem_of_mem hv
    have hj' : j < new.length := by rw [hr.1]; exact hj
    exact Xv.one (hr.2 j new[j] _ (List.getElem?_eq_getElem hj') (List.getElem?_eq_getElem hj))
  simp only [Nat.add_zero] at hst
  generalize hnew : (vs.toList.take (o0 + off) ++ us ++ vs.toList.drop (o0 + off + us.length)).toArray = nw at hst
  refine ⟨_, hst, ?_⟩
  have hblk : E.blk n = some b := by unfold Env.blk; rw [e1]
  have hl : ∀ m z, Aw.look m [(n, Xo.cells t' (setL cs off new))] = some z → m = n ∧ z = .cells t' (setL cs off new) := fun m z hz => by
    simp only [Aw.look_nil, Aw.look_cons] at hz
    split at hz
    · rename_i e; injection hz with hz; exact ⟨e, hz.symm⟩
    · cases hz
  have hns : nw.size = vs.size := by rw [← hnew]; simp; omega
  exact h.step (E' := E) (U' := U) (T := fun c => c = b) (rm := [n]) (ad := [(n, .cells t' (setL cs off new))]) (.refl _ _) (fun _ h => h) (kept_setRow (new := nw) e3)
    (fun c hc => ⟨n, _, by simp, hlook, by rw [hblk, hc]⟩) (fun m z hz => by
      obtain ⟨rfl, rfl⟩ := hl m z hz
      refine ⟨hn, b, o0, nw, e1, setRow_heap w b vs _ t' (0, 0) e3, by rw [hns]; exact e4, by simp [setL]; omega, fun j c hc => ?_⟩
      have hnl : nw.toList = vs.toList.take (o0 + off) ++ us ++ vs.toList.drop (o0 + off + us.length) := by rw [← hnew]
      have hvl : (vs.toList.take (o0 + off)).length = o0 + off := by simp; omega
      have hget : ∀ v, nw.toList[o0 + j]? = some v → nw[o0 + j]? = some v := fun v hv => by rw [← Array.getElem?_toList]; exact hv
      simp only [setL] at hc
      have hct : (cs.take off).length = off := by simp; omega
      rcases Nat.lt_or_ge j off with h1 | h1
      · rw [List.getElem?_append_left (by omega), List.getElem?_take, if_pos h1] at hc
        obtain ⟨v, hv, hrel⟩ := e6 j c hc
        refine ⟨v, hget v ?_, hrel⟩
        rw [hnl, List.append_assoc, List.getElem?_append_left (by omega), List.getElem?_take, if_pos (by omega), Array.getElem?_toList]; exact hv
      · rw [List.getElem?_append_right (by omega), hct] at hc
        rcases Nat.lt_or_ge (j - off) new.length with h2 | h2
        · rw [List.getElem?_append_left h2] at hc
          have hj : j - off < us.length := by omega
          refine ⟨us[j - off], hget _ ?_, hr.2 _ c _ hc (List.getElem?_eq_getElem hj)⟩
          rw [hnl, List.append_assoc, List.getElem?_append_right (by omega), hvl, List.getElem?_append_left (by omega), show o0 + j - (o0 + off) = j - off by omega]
          exact List.getElem?_eq_getElem hj
        · rw [List.getElem?_append_right (by omega), List.getElem?_drop] at hc
          rw [show off + new.length + (j - off - new.length) = j by omega] at hc
          obtain ⟨v, hv, hrel⟩ := e6 j c hc
          refine ⟨v, hget v ?_, hrel⟩
          rw [hnl, List.append_assoc, List.getElem?_append_right (by omega), hvl, List.getElem?_append_right (by omega), List.getElem?_drop, Array.getElem?_toList]
          rw [← hv]; congr 1; omega)
    (fun m z c hz hc => by obtain ⟨rfl, rfl⟩ := hl m z hz; exact .inl ⟨m, _, by simp, hlook, hc⟩) (fun m m' z z' c hz hz' _ _ => by rw [(hl m z hz).1, (hl m' z' hz').1])

def clearE (T : Tab) (μ : XS) (lo : Nat) (x : Operand) (t : TypeId) : Option (List Eff) := match T.ty t, μ.opd x with
  | some i, some (.val (.one c)) => match i.desc with
    | .slice e => match c with
      | .nils => some [⟨[], [], none, [], [], lo⟩]
      | .sl n off len k _ => match T.ty e with
        | some j => match Aw.look n μ.ob with
          | some (.cells t' cs) => bif len.beq 0 then some [⟨[], [], none, [], [], lo⟩] else
              bif k.beq j.size && (off + (repL len j.zero).length).ble cs.length && !(j.size.beq 0) then some [⟨[], [], none, [n], [(n, .cells t' (setL cs off (repL len j.zero)))], lo⟩] else none
          | _ => none
        | none => none
      | _ => none
    | _ => none
  | _, _ => none

theorem exec_clear {x : Operand} {t : TypeId} {w' : World} (ho : o.op = .call ⟨.builtin .clear, #[x], #[t]⟩) (h : (Builtin.clear_ #[t] o.type #[a.eval x]).run P w = .ok (.tuple #[]) w') : (execOp a.eval o).run P w = .ok (.value (.tuple #[])) w' := by
  unfold execOp
  simp [ho, resolve, invoke, builtin, h, Sem.run_bind, Sem.run_pure]

theorem step_clear (hT : TabOK P T) {x : Operand} {t : TypeId} {es : List Eff} (hs : Sub μ σ) (he : clearE T μ lo x t = some es) (ho : o.op = .call ⟨.builtin .clear, #[x], #[t]⟩) (hd : o.dst = none) : StepS P X o U σ lo es := by
  intro a w ⟨E, hr⟩
  unfold clearE at he
  split at he
  rotate_left; · cases he
  rename_i i c hi hx
  have hu := (hT.ty _ _ hi).und
  have hc := hr.opd (hs.opd hx)
  have done : ∀ {w' : World} {e : Eff}, (Builtin.clear_ #[t] o.type #[a.eval x]).run P w = .ok (.tuple #[]) w' → R X (fun n => U n ∨ (lo ≤ n ∧ n < e.hi)) (e.ap σ) a w' → wpX P o a w (fun a' w' => ∃ e' ∈ [e], R X (fun n => U n ∨ (lo ≤ n ∧ n < e'.hi)) (e'.ap σ) a' w') := fun {w' e} h1 h2 => by
    unfold wpX
    rw [exec_clear ho h1, OpX_value, hd]
    exact ⟨e, List.mem_singleton.2 rfl, h2⟩
  have same : R X (fun n => U n ∨ (lo ≤ n ∧ n < lo)) ((⟨[], [], none, [], [], lo⟩ : Eff).ap σ) a w := ⟨E, hr.weakU fun n hn => .inl hn⟩
  split at he
  rotate_left; · cases he
  rename_i el hdesc
  rw [hdesc] at hu
  split at he
  · injection he with he; subst he
    have hc : a.eval x = .slice none 0 0 := hc
    exact done (by simp [Builtin.clear_, run_underlying hu, hc, Sem.run_bind, Sem.run_pure]) same
  · rename_i n off len k full
    split at he
    rotate_left; · cases he
    rename_i j hj
    split at he
    rotate_left; · cases he
    rename_i t' cs hl
    obtain ⟨hn, b, o0, o2, cap, e1, e2, e3, e4, e5, e6, e7, e8⟩ := id hc
    cases h0 : len.beq 0 with
    | true =>
      rw [h0, cond_true] at he; injection he with he; subst he
      have := Nat.eq_of_beq_eq_true h0; subst this
      exact done (by simp [Builtin.clear_, run_underlying hu, e2, Sem.run_bind, Sem.run_pure]) same
    | false =>
      rw [h0, cond_false] at he
      have hl0 : len ≠ 0 := fun e => by subst e; cases h0
      cases hb : k.beq j.size && (off + (repL len j.zero).length).ble cs.length && !(j.size.beq 0) with
      | false => rw [hb, cond_false] at he; cases he
      | true =>
        rw [hb, cond_true] at he; injection he with he; subst he
        simp only [Bool.and_eq_true] at hb
        have b1 := Nat.eq_of_beq_eq_true hb.1.1
        have b2 := Nat.le_of_ble_eq_true hb.1.2
        have b3 : j.size ≠ 0 := fun e => by rw [e] at hb; simp at hb
        obtain ⟨z, hz, hzc, _, hzl, _⟩ := (hT.ty _ _ hj).zero
        have hzr := zerosA_rel E U hzc
        have hzs : z.cells.size = j.size := by have := hzr.1; simp only [Array.length_toList] at this; omega
        have ho2 : o2 = o0 + off := by rcases e3 with h | h
                                       · omega
                                       · exact h
        have hrel : cellsRel E U (repL len j.zero) (Builtin.zeroCells z.cells len).toList := repL_rel hzr (by omega) len
        obtain ⟨w', hst, hR⟩ := hr.poke (P := P) (hs.ob _ _ hl) e1 hrel b2
        refine done (w' := w') ?_ ⟨E, hR.weakU fun n hn => .inl hn⟩
        obtain ⟨len', rfl⟩ : ∃ l, len = l + 1 := ⟨len - 1, by omega⟩
        rw [← ho2] at hst
        simp [Builtin.clear_, run_underlying hu, e2, Sem.run_bind, Sem.run_pure, hz, hst, Result.andThen]
  · cases he

def copyE (T : Tab) (μ : XS) (lo : Nat) (dst : Option Nat) (x y : Operand) (t : TypeId) : Option (List Eff) := match T.ty t, μ.opd x, μ.opd y with
  | some i, some (.val (.one (.sl n off len k _))), some (.val (.one c2)) => match i.desc with
    | .slice e => match T.ty e, lenX c2 with
      | some j, some m => match elemsX μ.ob j.size c2, Aw.look n μ.ob with
        | some ys, some (.cells t' cs) => bif k.beq j.size && (off + ((m.min len) * j.size)).ble cs.length && (!(m.min len).beq 0) && (ys.length.beq (m * j.size)) then
            some [⟨[], [], dst.map fun d => (d, .val (.one (.int .i64 (m.min len : Nat)))), [n], [(n, .cells t' (setL cs off (ys.take ((m.min len) * j.size))))], lo⟩]
          else none
        | _, _ => none
      | _, _ => none
    | _ => none
  | _, _, _ => none

def clearX (T : Tab) (μ : XS) (lo : Nat) (xs : List Operand) (ts : List TypeId) : Option (List Eff) := match xs, ts with
  | [x], [t] => clearE T μ lo x t
  | _, _ => none
def nodX (T : Tab) (call : CallF) (op : Op) (μ : XS) (lo : Nat) : Option (List Eff) := match op with
  | .call ⟨.builtin .clear, xs, ts⟩ => clearX T μ lo xs.toList ts.toList
  | op => nodQ T call op μ lo
def opX (T : Tab) (call : CallF) (N : Nat) (o : Oper) (μ : XS) (lo : Nat) : Option (List Eff) :=
  match o.dst with
  | some d => bif N.ble d then none else orMem T call d o.op μ lo (pureQ T μ.opd o.op)
  | none => nodX T call o.op μ lo
theorem opX_ok (hT : TabOK P T) {call : CallF} (hc : CallOK P call) {N : Nat} (hN : X.N = N) {es : List Eff} (h : opX T call N o μ lo = some es) (hs : Sub μ σ) (hfr : ∀ e ∈ es, ∀ n, lo ≤ n → n < e.hi → ¬ U n) : StepS P X o U σ lo es := by
  unfold opX at h
  split at h
  · rename_i d hd
    exact opC_ok hT hc hN (by rw [← opQ_eq]; unfold opQ; rw [hd]; exact h) hs hfr
  · rename_i hd
    unfold nodX at h
    split at h
    · rename_i xs ts ho
      unfold clearX at h
      split at h
      · rename_i x t hxs hts
        rw [arr1 hxs, arr1 hts] at ho
        exact step_clear hT hs h ho hd
      · cases h
    · exact opC_ok hT hc hN (by rw [← opQ_eq]; unfold opQ; rw [hd]; exact h) hs hfr
end
end -- nc
end Go.Proofs.YtgjbehfdjnekdaaGreatDoor.Xc
end
