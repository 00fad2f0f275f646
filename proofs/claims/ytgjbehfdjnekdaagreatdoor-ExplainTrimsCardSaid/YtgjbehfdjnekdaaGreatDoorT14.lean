/- Parts of the proof of one statement: Sy6, Sy7, Sy8. -/
import Derived.Test.YtgjbehfdjnekdaaGreatDoorT13
set_option linter.all false
section
/- Symbolic states: operations that change the call's own objects are right. -/
set_option linter.unusedVariables false
set_option linter.unusedSimpArgs false
namespace Go.Proofs.YtgjbehfdjnekdaaGreatDoor.Sy
open Go.RowKit
open Go.Proofs.YtgjbehfdjnekdaaGreatDoor.Aw
open Go.Proofs.YtgjbehfdjnekdaaGreatDoor.Xc (Tab TabOK XT TyOK Xv Xp toList_ba placesX run_places)
noncomputable section
section
variable {P : Program} {X : Ctx} {T : Tab} {σ : SS} {τ : St} {o : Oper} {d : Nat} {lo : Nat}

theorem ty_app (hT : TabOK P T) {e : TypeId} {j : XT} (hj : T.ty e = some j) : ∃ i z, P.info? e = some i ∧ i.zero = some z ∧ i.size = j.size ∧ i.bytes = j.bytes ∧ z.cells.size = i.size := by
  obtain ⟨z, hz, hzc, _, hzl, hinfo⟩ := (hT.ty _ _ hj).zero
  obtain ⟨inf, hinf1, hinf2⟩ := Option.map_eq_some_iff.1 hinfo
  simp only [Prod.mk.injEq] at hinf2
  obtain ⟨h1, h2, h3⟩ := hinf2
  have hzr := Xc.zerosA_rel E0' U0' hzc
  have : z.cells.size = j.size := by have := hzr.1; simp only [Array.length_toList] at this; omega
  exact ⟨inf, z, hinf1, h1, h2, h3, by rw [h2]; exact this⟩

theorem step_appS (hT : TabOK P T) (hs : SubS σ τ) {t : TypeId} {x y : Operand} {c c2 : Sc} {e : SE} (hx : one σ.sl x = some c) (hy : one σ.sl y = some c2) (h : appS T σ lo t c c2 = some e) (hp : Holds e.obl) (hf : ∀ n, lo ≤ n → n < e.lo → τ.fresh n = true)
    (ho : o.op = .call ⟨.builtin .append, #[x, y], #[t, t]⟩) (hd : o.dst = some d) (hN : d < X.N) : StepS P X o τ ((e.eff o.dst lo σ).ap τ) := by
  have hx' := opd1 hs hx
  unfold appS at h
  split at h
  rotate_left; · cases h
  rename_i i hi
  have hu := (hT.ty _ _ hi).und
  split at h
  rotate_left; · cases h
  rename_i el hdesc
  rw [hdesc] at hu
  split at h
  rotate_left; · cases h
  rename_i j hj
  obtain ⟨inf, z, q1, q2, q3, q4, q5⟩ := ty_app hT hj
  cases hb : Nat.blt 0 j.size && Nat.blt 0 j.bytes with
  | false => rw [hb, cond_false] at h; cases h
  | true =>
    rw [hb, cond_true] at h
    rw [Bool.and_eq_true] at hb
    have h0 : 0 < inf.size := by rw [q3]; exact nlt hb.1
    have hby : 0 < inf.bytes := by rw [q4]; exact nlt hb.2
    split at h
    rotate_left; · cases h
    rename_i m g hn
    rw [← q3] at hn
    have hnews := newsS_ok (X := X) hs hy hn
    split at h
    · injection h with h; subst h
      have hp : m * j.bytes ≤ 140737488355328 := hp
      have := step_append_nil (P := P) (X := X) (o := o) (d := d) lo (lo + 1) hu q1 q2 q5 h0 hby ho hd hN hx' hnews (by rw [els_length, q4]; exact hp) (hf lo (Nat.le_refl _) (by show lo < lo + 2; omega)) (hf (lo + 1) (by omega) (by show lo + 1 < lo + 2; omega)) (by omega)
      rw [ap0 rfl, hd]
      rw [q3] at this
      exact this
    · rename_i n
      split at h
      · rename_i e' k n' f hl
        cases hb2 : e'.beq el && k.beq j.size with
        | false => rw [hb2, cond_false] at h; cases h
        | true =>
          rw [hb2, cond_true] at h
          rw [Bool.and_eq_true] at hb2
          have e1 := Nat.eq_of_beq_eq_true hb2.1
          have e2 := Nat.eq_of_beq_eq_true hb2.2
          injection h with h; subst h; subst e1; subst e2
          have hp : (n' + m) * j.bytes ≤ 140737488355328 := hp
          have hob := hs.ob _ _ hl
          have := step_append (P := P) (X := X) (o := o) (d := d) lo (n := n) (els := els n' f) (fls := els m g) (r := els (n' + m) (catF n' f g)) hu q1 q2 q5 h0 hby ho hd hN hx' (by rw [q3]; exact hob) hnews (by rw [els_length, els_length, q4]; exact hp) (hf lo (Nat.le_refl _) (Nat.lt_succ_self _)) els_cat
          have e : (SE.eff ⟨some ((n' + m) * j.bytes ≤ 140737488355328), some (.val (.one (.ref lo 0))), [n], [(lo, .row e' j.size (n' + m) (catF n' f g))], lo + 1⟩ o.dst lo σ).ap τ = ((⟨τ.sl, (lo, .row e' inf.size (els (n' + m) (catF n' f g))) :: τ.ob.filter fun x => !(x.1.beq n)⟩ : St).put d (.val (.one (.ref lo 0)))) := by
            rw [hd, q3]
            show (⟨_, _ ++ τ.ob.filter _⟩ : St) = _
            simp only [SE.eff, SE.dst, St.put, denOb, denSl]
            congr 1
            show _ :: _ = _ :: _
            congr 1
            show List.filter _ τ.ob = _
            refine List.filter_congr fun x _ => ?_
            simp
          rw [e]; exact this
      · cases h
    · cases h

theorem Op_store {o : Op} {t : TypeId} {x y : Operand} (h : o = .store t x y) : noV o = true := by rw [h]; rfl

theorem memS_ok (hT : TabOK P T) (hs : SubS σ τ) {e : SE} (h : memS T σ lo o.op = some e) (hp : Holds e.obl) (hd : if noV o.op = true then o.dst = none else o.dst = some d ∧ d < X.N) (hf : ∀ n, lo ≤ n → n < e.lo → τ.fresh n = true) : StepS P X o τ ((e.eff o.dst lo σ).ap τ) := by
  unfold memS at h
  split at h
  · rename_i t ho
    rw [ho] at hd
    obtain ⟨hd, hN⟩ := (hd : o.dst = some d ∧ d < X.N)
    split at h
    · rename_i i hi
      split at h
      · rename_i zc hz
        injection h with h; subst h
        obtain ⟨z, hzv, hzc, _⟩ := (hT.ty _ _ hi).zero
        rw [ap0 rfl, hd]
        exact step_alloc lo hzv (zc_ok hz hzc) ho hd hN (hf lo (Nat.le_refl _) (Nat.lt_succ_self _)) (by rw [isDL_den (zero_fresh hz)]; exact dat_fresh _ _)
      · cases h
    · cases h
  · rename_i t x ho
    rw [ho] at hd
    obtain ⟨hd, hN⟩ := (hd : o.dst = some d ∧ d < X.N)
    split at h
    · rename_i p hx
      injection h with h; subst h
      have hx' := opd_den hs hx
      have hfr := hf lo (Nat.le_refl _) (Nat.lt_succ_self _)
      have hpf := opd_fresh hx' hfr
      rw [ap0 rfl, hd]
      have := step_box (P := P) (X := X) lo ho hd hN hx' hfr (by
        cases p with
        | one c => simpa [AV.fresh, Sv.den, Sp.den, Part.fresh, Part.cells] using hpf
        | agg cs => exact hpf)
      rw [cells_den] at this
      exact this
    · cases h
  · rename_i t x y ho
    rw [ho] at hd
    have hd : o.dst = none := hd
    split at h
    · rename_i i n off p hi hx hy
      split at h
      · rename_i T' cs hl
        cases hb : p.cells.length.beq i.size && (off + i.size).ble cs.length with
        | false => rw [hb, cond_false] at h; cases h
        | true =>
          rw [hb, cond_true] at h
          rw [Bool.and_eq_true] at hb
          injection h with h; subst h
          rw [ap0 rfl, hd]
          exact step_store (hT.ty _ _ hi).size ho hd (opd1 hs hx) (opd_den hs hy) (hs.ob _ _ hl) (by rw [cells_den, List.length_map]; exact Nat.eq_of_beq_eq_true hb.1) (by rw [List.length_map]; exact Nat.le_of_ble_eq_true hb.2) (by rw [cells_den, setS_den])
      · cases h
    · rename_i i n q k j p hi hx hy
      split at h
      · rename_i T' k' m f hl
        cases hb : k.beq k' && p.cells.length.beq i.size && isDL p.cells && (j + i.size).ble k with
        | false => rw [hb, cond_false] at h; cases h
        | true =>
          rw [hb, cond_true] at h
          simp only [Bool.and_eq_true] at hb
          obtain ⟨⟨⟨h1, h2⟩, h3⟩, h4⟩ := hb
          have := Nat.eq_of_beq_eq_true h1; subst this
          have hlen := Nat.eq_of_beq_eq_true h2
          cases hb2 : j.beq 0 && i.size.beq k with
          | true =>
            rw [hb2, cond_true] at h
            rw [Bool.and_eq_true] at hb2
            have e1 := Nat.eq_of_beq_eq_true hb2.1
            have e2 := Nat.eq_of_beq_eq_true hb2.2
            subst e1
            injection h with h; subst h
            have hp : q < m := hp
            rw [ap0 rfl, hd]
            refine step_store_full (by rw [← e2]; exact (hT.ty _ _ hi).size) ho hd (opd1 hs hx) (opd_den hs hy) (hs.ob _ _ hl) (qs := predL p.cells) (by rw [cells_den]; exact isDL_den h3) (by rw [predL_length]; omega) (i := q) rfl (by rw [els_length]; exact hp) ?_
            rw [els_upd]
          | false =>
            rw [hb2, cond_false] at h
            injection h with h; subst h
            have hp : q < m := hp
            rw [ap0 rfl, hd]
            refine step_store_el (hT.ty _ _ hi).size ho hd (opd1 hs hx) (opd_den hs hy) (hs.ob _ _ hl) (qs := predL p.cells) (by rw [cells_den]; exact isDL_den h3) (by rw [predL_length]; exact hlen) rfl (els_at hp) (Nat.le_of_ble_eq_true h4) ?_
            rw [els_upd]
            congr 1
            simp only [setS, predL_map, List.map_append, List.map_take, List.map_drop, hlen]
      · cases h
    · cases h
  · rename_i t len parts ho
    rw [ho] at hd
    obtain ⟨hd, hN⟩ := (hd : o.dst = some d ∧ d < X.N)
    split at h
    · rename_i i ps hi hps
      have hu := (hT.ty _ _ hi).und
      split at h
      · rename_i el hdesc
        rw [hdesc] at hu
        split at h
        · rename_i j hj
          cases hb : Nat.blt 0 j.size && (len * j.size).ble 16777216 && litOK j.size 0 ps && ps.length.beq len with
          | false => rw [hb, cond_false] at h; cases h
          | true =>
            rw [hb, cond_true] at h
            simp only [Bool.and_eq_true] at hb
            obtain ⟨⟨⟨h1, h2⟩, h3⟩, h4⟩ := hb
            injection h with h; subst h
            obtain ⟨z, hzv, hzc, _, hzl, _⟩ := (hT.ty _ _ hj).zero
            have hlen := Nat.eq_of_beq_eq_true h4
            have hzr := Xc.zerosA_rel E0' U0' hzc
            have hz0 : ∃ zc0, zcells z.cells.toList = some zc0 ∧ zc0.length = j.size := by
              have hzs : z.cells.toList.length = j.size := by have := hzr.1; omega
              have key : ∀ {vs : List Value} {xs : List Xv}, Xc.zerosA vs = some xs → ∃ zc0, zcells vs = some zc0 ∧ zc0.length = vs.length := by
                intro vs
                induction vs with
                | nil => exact fun _ => ⟨[], rfl, rfl⟩
                | cons v vs ih =>
                  intro xs hx
                  simp only [Xc.zerosA] at hx
                  split at hx
                  · rename_i x xs' e1 e2
                    obtain ⟨zc0, e3, e4⟩ := ih e2
                    have : ∃ c, valCell v = some c := by
                      unfold Xc.constA at e1
                      split at e1
                      all_goals first
                        | exact ⟨_, rfl⟩
                        | cases e1
                    obtain ⟨c, hc⟩ := this
                    exact ⟨c :: zc0, by simp only [zcells, hc, e3], by simp [e4]⟩
                  · cases hx
              obtain ⟨zc0, e1, e2⟩ := key hzc
              exact ⟨zc0, e1, by omega⟩
            obtain ⟨zc0, e1, e2⟩ := hz0
            rw [ap0 rfl, hd]
            have hfill := lit_fill (pre := []) h3 (by simp) ps.length rfl
            refine step_lit lo hu (hT.ty _ _ hj).size hzv e1 e2 (nlt h1) (Nat.le_of_ble_eq_true h2) ho hd hN (hf lo (Nat.le_refl _) (Nat.lt_succ_self _)) (fpartsS_ok hs hps) (els := els len (litF ps)) ?_ ?_ (els_length _ _)
            · rw [← hlen, litF_els]
              simpa using hfill
            · rw [← hlen, litF_els, List.all_map, List.all_eq_true]
              intro x hx
              simp only [Function.comp, beq_iff_eq, predL_length]
              exact lit_len h3 x hx
        · cases h
      · cases h
    · cases h
  · rename_i t x y ho
    rw [ho] at hd
    obtain ⟨hd, hN⟩ := (hd : o.dst = some d ∧ d < X.N)
    split at h
    · rename_i i k n k' c hi hx hy
      have hu := (hT.ty _ _ hi).und
      split at h
      · rename_i el hdesc
        rw [hdesc] at hu
        split at h
        · rename_i j hj
          obtain ⟨inf, z, q1, q2, q3, q4, q5⟩ := ty_app hT hj
          cases hb : Nat.blt 0 j.size && Nat.blt 0 j.bytes with
          | false => rw [hb, cond_false] at h; cases h
          | true =>
            rw [hb, cond_true] at h
            rw [Bool.and_eq_true] at hb
            split at h
            · rename_i zc hz
              cases hD : isDL zc with
              | false => rw [hD, cond_false] at h; cases h
              | true =>
                rw [hD, cond_true] at h
                injection h with h; subst h
                obtain ⟨p1, p2, p3⟩ := (hp : 0 ≤ n ∧ n ≤ c ∧ c.toNat * j.bytes ≤ 140737488355328)
                obtain ⟨zz, hzv, hzc, _, hzl, hinfo⟩ := (hT.ty _ _ hj).zero
                have hzz : zz = z := by
                  rw [q1] at hinfo
                  simp only [Option.map_some, Option.some.injEq, Prod.mk.injEq] at hinfo
                  rw [q2] at hinfo
                  exact (Option.some.inj hinfo.1).symm
                subst hzz
                have hcr := fun (w : World) (M : Cells) => zeroS_ok (ι := ι0) (w := w) (M := M) hz (Xc.zerosA_rel E0' U0' hzc)
                have hlz : zc.length = j.size := by
                  have := (hcr default (fun _ _ => False)).1
                  simp only [List.length_map, Array.length_toList] at this
                  omega
                rw [ap0 rfl, hd]
                have hx' : τ.opd x = some (D (intP k ((n.toNat : Nat) : Int))) := by rw [show ((n.toNat : Nat) : Int) = n by omega]; exact opd1 hs hx
                have hy' : τ.opd y = some (D (intP k' ((c.toNat : Nat) : Int))) := by rw [show ((c.toNat : Nat) : Int) = c by omega]; exact opd1 hs hy
                have := step_make (P := P) (X := X) lo (zp := predL zc) hu (hT.ty _ _ hj).size q1 q2 q3 (by rw [q5, q3]) (nlt hb.1) (by rw [q4]; exact nlt hb.2) (by rw [predL_length]; exact hlz) (fun q p hq => ?_) ho hd hN hx' hy' (by omega) (by rw [q4]; exact p3) (hf lo (Nat.le_refl _) (Nat.lt_succ_self _))
                · have e : els n.toNat (fun _ => zc) = List.replicate n.toNat (predL zc) := by
                    refine List.ext_getElem? fun i => ?_
                    rcases Nat.lt_or_ge i n.toNat with h | h
                    · rw [els_at h, List.getElem?_replicate, if_pos h]
                    · rw [List.getElem?_eq_none (by rw [els_length]; exact h), List.getElem?_eq_none (by simpa using h)]
                  show StepS P X o τ ⟨_, (lo, Ob.row el j.size (els n.toNat fun _ => zc)) :: τ.ob⟩
                  rw [e]; exact this
                · have hql : q < zc.length := by rw [← predL_length]; rcases Nat.lt_or_ge q (predL zc).length with h | h; exact h; simp [List.getElem?_eq_none h] at hq
                  have hqz : q < zz.cells.size := by rw [q5, q3]; omega
                  refine ⟨zz.cells[q], Array.getElem?_eq_getElem hqz, fun w M => ?_⟩
                  have h3 := (hcr w M).2 q (zc[q].den) zz.cells[q] (by rw [List.getElem?_map, List.getElem?_eq_getElem hql]; rfl) (by simp [hqz])
                  rw [predL_get (List.getElem?_eq_getElem hql)] at hq
                  injection hq with hq; subst hq
                  have hdq : isD zc[q] = true := by
                    have key : ∀ {l : List Sc}, isDL l = true → ∀ c ∈ l, isD c = true := by
                      intro l
                      induction l with
                      | nil => intro _ c hc; simp at hc
                      | cons a l ih =>
                        intro hl c hc
                        simp only [isDL, Bool.and_eq_true] at hl
                        rcases List.mem_cons.1 hc with rfl | hc
                        · exact hl.1
                        · exact ih hl.2 c hc
                    exact key hD _ (List.getElem_mem hql)
                  rw [isD_den hdq] at h3
                  exact h3.1
            · cases h
        · cases h
      · cases h
    · cases h
  · rename_i xs ts ho
    rw [ho] at hd
    obtain ⟨hd, hN⟩ := (hd : o.dst = some d ∧ d < X.N)
    split at h
    · rename_i x y t t' hxs hts
      have hxs : xs = #[x, y] := by rw [← Array.toArray_toList (xs := xs), hxs]
      have hts : ts = #[t, t'] := by rw [← Array.toArray_toList (xs := ts), hts]
      subst hxs; subst hts
      cases hb : t.beq t' with
      | false => rw [hb, cond_false] at h; cases h
      | true =>
        rw [hb, cond_true] at h
        have := Nat.eq_of_beq_eq_true hb; subst this
        split at h
        · rename_i c c2 hx hy
          exact step_appS hT hs hx hy h hp hf ho hd hN
        · cases h
    · cases h
  · cases h
end
end -- nc
end Go.Proofs.YtgjbehfdjnekdaaGreatDoor.Sy
end
section
/- Symbolic states: fresh names, guarded operations, closures with data. -/
set_option linter.unusedVariables false
set_option linter.unusedSimpArgs false
namespace Go.Proofs.YtgjbehfdjnekdaaGreatDoor.Sy
open Go.RowKit
open Go.Proofs.YtgjbehfdjnekdaaGreatDoor.Aw
open Go.Proofs.YtgjbehfdjnekdaaGreatDoor.Xc (Tab TabOK XT TyOK Xv Xp toList_ba placesX run_places)
noncomputable section

/-! ### Fresh names -/
def frCap (n : Nat) : Sc → Bool
  | .ref m 0 => !(m.beq n)
  | _ => true
def frC (n : Nat) : Sc → Bool
  | .ref m _ => !(m.beq n)
  | .el m _ _ _ => !(m.beq n)
  | .clo _ l => l.all (frCap n)
  | _ => true
def frP (n : Nat) : Sp → Bool
  | .one c => frC n c
  | .agg cs => cs.all (frC n)
def frV (n : Nat) : Sv → Bool
  | .val p => frP n p
  | .tup l => l.all (frP n)
  | .opt _ p => frP n p
def frO (n : Nat) : So → Bool
  | .box _ cs => cs.all (frC n)
  | _ => true
def frSl (n : Nat) : List (Nat × Sv) → Bool
  | [] => true
  | (_, v) :: l => frV n v && frSl n l
def frOb (n : Nat) : List (Nat × So) → Bool
  | [] => true
  | (m, x) :: l => frO n x && !(m.beq n) && frOb n l
def frAll (sl : List (Nat × Sv)) (ob : List (Nat × So)) : List Nat → Bool
  | [] => true
  | n :: l => frSl n sl && frOb n ob && frAll sl ob l

theorem frCap_den {n : Nat} {c : Sc} (h : frCap n c = true) : (c.cap).fresh n = true := by
  unfold frCap at h
  split at h
  · exact h
  · rename_i hne
    have : c.cap = .dt c.pred := by
      unfold Sc.cap
      split
      · rename_i m; exact absurd rfl (hne m)
      · rfl
    rw [this]; rfl
theorem frC_den {n : Nat} {c : Sc} (h : frC n c = true) : (c.den).fresh n = true := by
  cases c with
  | ref m off => exact h
  | el m i k j => exact h
  | clo f l =>
    simp only [frC, List.all_eq_true] at h
    show (l.map Sc.cap).all _ = true
    rw [List.all_map, List.all_eq_true]
    exact fun c hc => frCap_den (h c hc)
  | _ => rfl
theorem frP_den {n : Nat} {p : Sp} (h : frP n p = true) : (p.den).fresh n = true := by
  cases p with
  | one c => exact frC_den h
  | agg cs =>
    simp only [frP, List.all_eq_true] at h
    show (cs.map Sc.den).all _ = true
    rw [List.all_map, List.all_eq_true]
    exact fun c hc => frC_den (h c hc)
theorem frV_den {n : Nat} {v : Sv} (h : frV n v = true) : (v.den).fresh n = true := by
  cases v with
  | val p => exact frP_den h
  | tup l =>
    simp only [frV, List.all_eq_true] at h
    show (l.map Sp.den).all _ = true
    rw [List.all_map, List.all_eq_true]
    exact fun c hc => frP_den (h c hc)
  | opt b p => exact frP_den h
theorem frO_den {n : Nat} {x : So} (h : frO n x = true) : (x.den).fresh n = true := by
  cases x with
  | box T cs =>
    simp only [frO, List.all_eq_true] at h
    show (cs.map Sc.den).all _ = true
    rw [List.all_map, List.all_eq_true]
    exact fun c hc => frC_den (h c hc)
  | row T k n f => rfl
theorem frSl_den {n : Nat} : ∀ {l : List (Nat × Sv)}, frSl n l = true → (l.map fun x => (x.1, x.2.den)).all (fun x => x.2.fresh n) = true
  | [], _ => rfl
  | (t, v) :: l, h => by
    simp only [frSl, Bool.and_eq_true] at h
    simp only [List.map_cons, List.all_cons, Bool.and_eq_true]
    exact ⟨frV_den h.1, frSl_den h.2⟩
theorem frOb_den {n : Nat} : ∀ {l : List (Nat × So)}, frOb n l = true → (l.map fun x => (x.1, x.2.den)).all (fun x => x.2.fresh n && !(x.1.beq n)) = true
  | [], _ => rfl
  | (t, v) :: l, h => by
    simp only [frOb, Bool.and_eq_true] at h
    simp only [List.map_cons, List.all_cons, Bool.and_eq_true]
    exact ⟨⟨frO_den h.1.1, h.1.2⟩, frOb_den h.2⟩
theorem fr_den {σ : SS} {n : Nat} (h1 : frSl n σ.sl = true) (h2 : frOb n σ.ob = true) : σ.den.fresh n = true := by
  show (_ && _) = true
  rw [Bool.and_eq_true]
  exact ⟨frSl_den h1, frOb_den h2⟩
theorem frAll_ok {sl : List (Nat × Sv)} {ob : List (Nat × So)} : ∀ {l : List Nat}, frAll sl ob l = true → ∀ n ∈ l, (SS.den ⟨sl, ob⟩).fresh n = true ∧ frOb n ob = true
  | [], _, n, hn => by simp at hn
  | m :: l, h, n, hn => by
    simp only [frAll, Bool.and_eq_true] at h
    rcases List.mem_cons.1 hn with rfl | hn
    · exact ⟨fr_den h.1.1 h.1.2, h.1.2⟩
    · exact frAll_ok h.2 n hn

/-! ### Guards -/
section
variable {P : Program} {Q : Exit → Act → World → Prop} {X : Ctx} {K : List Item} {τ τ' : St} {o : Oper} {d : Nat}

theorem yielded_of {ops : Array Oper} {j t : Nat} {b : Bool} {a : Act} {w : World} (hj : (ops[j]?).bind (·.dst) = some t) (ht : Aw.look t τ.sl = some (D (boolP b))) (hr : R X τ a w) : yielded ops a.tmps j = some b := by
  have hb : a.tmps.getD t undef = .bool b := by obtain ⟨ι, F, h⟩ := hr; exact (h.slot t _ ht).1
  unfold yielded
  rw [hj]
  simp only [Option.bind_some]
  have : a.tmps[t]? = some (.bool b) := by
    rw [Array.getD_eq_getD_getElem?] at hb
    cases hq : a.tmps[t]? with
    | none => rw [hq] at hb; simp [undef] at hb
    | some v => rw [hq] at hb; simp at hb; rw [hb]
  rw [this]
theorem stepG_true {ops : Array Oper} {j t : Nat} {want b : Bool} (hg : o.guard = some (j, want)) (hj : (ops[j]?).bind (·.dst) = some t) (ht : Aw.look t τ.sl = some (D (boolP b))) (hb : b = want) (s : StepS P X o τ τ') : StepG P X ops o τ τ' := by
  intro a w hr
  have hy := yielded_of hj ht hr
  have hw : Region.wanted o (yielded ops a.tmps) = true := by
    simp only [Region.wanted, hg, hy]
    subst hb; cases b <;> rfl
  rw [if_pos hw]
  exact s a w hr
theorem stepG_false {ops : Array Oper} {j t : Nat} {want b : Bool} (hg : o.guard = some (j, want)) (hj : (ops[j]?).bind (·.dst) = some t) (ht : Aw.look t τ.sl = some (D (boolP b))) (hb : b ≠ want) (hd : o.dst = some d)
    (hs : ∀ s v, Aw.look s τ'.sl = some v → (s ≠ d ∧ Aw.look s τ.sl = some v) ∨ v = .opt false (.one .any)) (ho : ∀ n, Aw.look n τ'.ob = Aw.look n τ.ob) : StepG P X ops o τ τ' := by
  intro a w hr
  have hy := yielded_of hj ht hr
  have hw : ¬ (Region.wanted o (yielded ops a.tmps) = true) := by
    simp only [Region.wanted, hg, hy]
    cases b <;> cases want <;> first | (exact absurd rfl hb) | simp
  rw [if_neg hw, hd]
  obtain ⟨ι, F, h⟩ := hr
  refine ⟨ι, F, { h with none_ := fun n hn => h.none_ n (by rw [← ho]; exact hn), obj := fun n x hx => h.obj n x (by rw [← ho]; exact hx), slot := fun s v hv => ?_, size := by simpa [Act.put] using h.size, defers := h.defers }⟩
  rcases hs s v hv with ⟨hne, hl⟩ | rfl
  rotate_left; · intro e; cases e
  have h1 := h.slot s v hl
  have : (a.put (some d) undef).tmps.getD s undef = a.tmps.getD s undef := by
    simp only [Act.put, Array.getD_eq_getD_getElem?, Array.getElem?_setIfInBounds]
    rw [if_neg (Ne.symm hne)]
  rw [this]; exact h1

/-- A call of a closure whose captured variables nobody writes any more. -/
theorem step_calld {d : Nat} {f : FuncId} {g : Operand} {qs : List Pred} {xs : Array Operand} {ts : Array TypeId} {ps args res : List Part} (ho : o.op = .call { callee := .value g, args := xs, argTypes := ts })
    (hd : o.dst = some d) (hN : d < X.N) (hf : Enters P f) (hg : τ.opd g = some (.val (.one (.clo f (qs.map .dt))))) (hp : τ.parts xs.toList = some ps) (hle : LeL (ps ++ qs.map fun q => .one (.dat q)) args) (hpa : args.all Part.pure = true) (hpr : res.all Part.pure = true) (hG : CG X) (hc : PC P f args res) :
    StepS P X o τ (τ.put d (resAV res)) := by
  intro a w ⟨ι, F, hr⟩
  obtain ⟨⟨vs, hv, hl, hh⟩, _⟩ := hr.opd hg
  have hv : a.eval g = .func (.func f) #[] vs.toArray := hv
  unfold Oper.wp
  rw [run_call ho hv hf w, Oper.upon_enter]
  have hcaps : partsRel ι w (Mof X.M0 F) (qs.map fun p => Part.one (.dat p)) vs := ⟨by simpa using hl.symm, fun i p u hp hu => by
    rw [List.getElem?_map] at hp
    obtain ⟨q, hq, rfl⟩ := Option.map_eq_some_iff.1 hp
    have := hh i (.dt q) u (by simp [hq]) hu
    exact ⟨this, q.one this⟩⟩
  have hargs := partsRel_pure hpa (κ := ι0) (hle.rel (partsRel_append (hr.parts hp) hcaps))
  have hcall := hc w (Mof X.M0 F) (xs.toList.map a.eval ++ vs) (hG w hr.kept) (mof_lt hr) hargs
  have he : (#[] ++ xs.map a.eval ++ vs.toArray : Array Value) = (xs.toList.map a.eval ++ vs).toArray := by cases xs; simp
  rw [he]
  refine hcall.mono fun e w' ⟨rs, hret, hres, hb⟩ => ?_
  subst hret
  simp only [hd]
  exact ⟨ι, F, (hr.world (Kept.of_below hb _)).put hN (resAV_rel (partsRel_pure hpr hres))⟩
theorem step_calld0 {f : FuncId} {g : Operand} {qs : List Pred} {xs : Array Operand} {ts : Array TypeId} {ps args res : List Part} (ho : o.op = .call { callee := .value g, args := xs, argTypes := ts })
    (hd : o.dst = none) (hf : Enters P f) (hg : τ.opd g = some (.val (.one (.clo f (qs.map .dt))))) (hp : τ.parts xs.toList = some ps) (hle : LeL (ps ++ qs.map fun q => .one (.dat q)) args) (hpa : args.all Part.pure = true) (hG : CG X) (hc : PC P f args res) :
    StepS P X o τ τ := by
  intro a w ⟨ι, F, hr⟩
  obtain ⟨⟨vs, hv, hl, hh⟩, _⟩ := hr.opd hg
  have hv : a.eval g = .func (.func f) #[] vs.toArray := hv
  unfold Oper.wp
  rw [run_call ho hv hf w, Oper.upon_enter]
  have hcaps : partsRel ι w (Mof X.M0 F) (qs.map fun p => Part.one (.dat p)) vs := ⟨by simpa using hl.symm, fun i p u hp hu => by
    rw [List.getElem?_map] at hp
    obtain ⟨q, hq, rfl⟩ := Option.map_eq_some_iff.1 hp
    have := hh i (.dt q) u (by simp [hq]) hu
    exact ⟨this, q.one this⟩⟩
  have hargs := partsRel_pure hpa (κ := ι0) (hle.rel (partsRel_append (hr.parts hp) hcaps))
  have hcall := hc w (Mof X.M0 F) (xs.toList.map a.eval ++ vs) (hG w hr.kept) (mof_lt hr) hargs
  have he : (#[] ++ xs.map a.eval ++ vs.toArray : Array Value) = (xs.toList.map a.eval ++ vs).toArray := by cases xs; simp
  rw [he]
  refine hcall.mono fun e w' ⟨rs, hret, hres, hb⟩ => ?_
  subst hret
  simp only [hd]
  exact ⟨ι, F, hr.world (Kept.of_below hb _)⟩
end
end -- nc
end Go.Proofs.YtgjbehfdjnekdaaGreatDoor.Sy
end
section
/- Symbolic states: the walk: regions, control, calls. -/
set_option linter.unusedVariables false
set_option linter.unusedSimpArgs false
namespace Go.Proofs.YtgjbehfdjnekdaaGreatDoor.Sy
open Go.RowKit
open Go.Proofs.YtgjbehfdjnekdaaGreatDoor.Aw
open Go.Proofs.YtgjbehfdjnekdaaGreatDoor.Xc (Tab TabOK XT TyOK Xv Xp toList_ba placesX run_places del look_del)
noncomputable section

/-- What a walk is in the middle of. -/
structure GoS (P : Program) (Q : Exit → Act → World → Prop) (X : Ctx) (K : List Item) (sl : List (Nat × Sv)) (ob : List (Nat × So)) (lo : Nat) : Prop where
  go : Go P Q X K (SS.den ⟨sl, ob⟩)

/-- A contract: data in, data out. -/
structure SPC (P : Program) (f : FuncId) (args res : List Sp) : Prop where
  pc : PC P f (args.map Sp.den) (res.map Sp.den)
  pa : (args.map Sp.den).all Part.pure = true
  pr : (res.map Sp.den).all Part.pure = true
def LeS (ps args : List Sp) : Prop := LeL (ps.map Sp.den) (args.map Sp.den)
def resS : List Sp → Sv
  | [p] => .val p
  | l => .tup l
theorem resS_den (l : List Sp) : (resS l).den = resAV (l.map Sp.den) := by
  match l with
  | [] => rfl
  | [p] => rfl
  | p :: q :: l => rfl
/-- A function value that answers as told. -/
def CallsP (P : Program) (p : Pred) (args res : List Sp) : Prop :=
  ∃ (α : Type) (A B : α → List Part) (y : α), p = fnP P A B ∧ A y = args.map Sp.den ∧ B y = res.map Sp.den ∧ (args.map Sp.den).all Part.pure = true ∧ (res.map Sp.den).all Part.pure = true

def nextS (p : Option Prop) (q : Prop) : Prop := match p with
  | none => q
  | some p => p ∧ q
def rmOb (ns : List Nat) (ob : List (Nat × So)) : List (Nat × So) := match ns with
  | [] => ob
  | _ => ob.filter fun x => !(ns.any x.1.beq)
def opS (T : Tab) (σ : SS) (lo : Nat) (o : Op) : Option SE := match valS T σ o with
  | some (p, v) => some ⟨p, some v, [], [], lo⟩
  | none => memS T σ lo o
def dstS (N : Nat) (o : Oper) : Bool := match o.dst with
  | some d => d.blt N && !(noV o.op)
  | none => noV o.op

/-- The data that a closure has captured. -/
def capsD : List Sc → Option (List Sc)
  | [] => some []
  | c :: l => bif isD c then match capsD l with
    | some cs => some (c :: cs)
    | none => none
    else none

abbrev KS := List (Nat × Sv) → List (Nat × So) → Nat → Prop

def wpCall (P : Program) (T : Tab) (N : Nat) (c : Sc) (ps : List Sp) (hyp : Prop → Prop) (k : Sv → Prop) : Prop := match c with
  | .clo f caps => match T.fn f, capsD caps with
    | some _, some cs => ∃ res, hyp (∃ args, SPC P f args res ∧ LeS (ps ++ cs.map Sp.one) args) ∧ k (resS res)
    | _, _ => False
  | .pr p => ∃ res, hyp (∃ args, CallsP P p args res ∧ LeS ps args) ∧ k (resS res)
  | _ => False
def putS (d : Option Nat) (v : Sv) (sl : List (Nat × Sv)) : List (Nat × Sv) := match d with
  | some d => (d, v) :: sl
  | none => sl
def okD (N : Nat) : Option Nat → Bool
  | some d => d.blt N
  | none => true
/-- What goes on behind an operation: its effect laid open. -/
def putK (d : Option Nat) (v : Option Sv) (rm : List Nat) (ad : List (Nat × So)) (sl : List (Nat × Sv)) (ob : List (Nat × So)) (lo : Nat) (k : KS) : Prop := match d, v, rm, ad with
  | some d, some v, [], [] => k ((d, v) :: sl) ob lo
  | some d, some v, [], [(n, x)] => k ((d, v) :: sl) ((n, x) :: ob) lo
  | some d, some v, rm, ad => k ((d, v) :: sl) (ad ++ rmOb rm ob) lo
  | _, _, [], [] => k sl ob lo
  | _, _, [], [(n, x)] => k sl ((n, x) :: ob) lo
  | _, _, rm, ad => k sl (ad ++ rmOb rm ob) lo
theorem putK_eq (d : Option Nat) (p : Option Prop) (v : Option Sv) (rm : List Nat) (ad : List (Nat × So)) (sl : List (Nat × Sv)) (ob : List (Nat × So)) (lo : Nat) (k : KS) : putK d v rm ad sl ob lo k = k (SE.dst ⟨p, v, rm, ad, lo⟩ d ++ sl) (ad ++ rmOb rm ob) lo := by
  unfold putK
  split <;> first | rfl | skip
  all_goals (cases d <;> cases v <;> first | rfl | skip)
  all_goals simp_all
def wpOne (P : Program) (T : Tab) (N : Nat) (o : Oper) (sl : List (Nat × Sv)) (ob : List (Nat × So)) (lo : Nat) (k : KS) : Prop := match o.op with
  | .call ⟨.value g, xs, ts⟩ => match one sl g, partsS sl xs.toList with
    | some c, some ps => bif okD N o.dst then wpCall P T N c ps id (fun v => k (putS o.dst v sl) ob lo) else False
    | _, _ => False
  | op => match opS T ⟨sl, ob⟩ lo op with
    | some ⟨p, v, rm, ad, lo'⟩ => bif dstS N o && frAll sl ob (names lo (lo' - lo)) then nextS p (putK o.dst v rm ad sl ob lo' k) else False
    | none => False

structure GM where
  j : Nat
  w : Bool
  t : Nat
  b : Bool
  sl : List (Nat × Sv)
  ob : List (Nat × So)
/-- A slot of which nothing is known. -/
abbrev dead : Sv := .opt false (.one .any)

def boolAt (sl : List (Nat × Sv)) (t : Nat) : Option Bool := match lk t sl with
  | some (.val (.one (.bool b))) => some b
  | _ => none
def boolOf (sl : List (Nat × Sv)) (x : Operand) : Option Bool := match opd sl x with
  | some (.val (.one (.bool b))) => some b
  | _ => none
def constB : Operand → Option Bool
  | .const (.bool b) => some b
  | _ => none
def impS (b w : Bool) (p : Option Prop) (q : Prop) : Prop := match p with
  | none => q
  | some p => (b = w → p) ∧ q
def isCall : Op → Bool
  | .call ⟨.value _, _, _⟩ => true
  | _ => false
/-- A guarded operation: in the state where the guard lets it run. -/
def wpGd (P : Program) (T : Tab) (N : Nat) (j : Nat) (w : Bool) (t : Nat) (b : Bool) (gsl : List (Nat × Sv)) (gob : List (Nat × So)) (o : Oper) (sl : List (Nat × Sv)) (ob : List (Nat × So)) (lo : Nat) (k : GM → KS) : Prop := match o.dst with
  | some d => bif d.blt N && !(d.beq t) then (match o.op with
    | .call ⟨.value f, xs, ts⟩ => match one sl f, partsS sl xs.toList with
      | some c, some ps => wpCall P T N c ps (fun p => b = w → p) (fun v => k ⟨j, w, t, b, (d, dead) :: gsl, gob⟩ ((d, v) :: sl) ob lo)
      | _, _ => False
    | op => match opS T ⟨sl, ob⟩ lo op with
      | some ⟨p, some v, [], [], lo'⟩ => bif !(noV op) && frAll sl ob (names lo (lo' - lo)) then impS b w p (k ⟨j, w, t, b, (d, dead) :: gsl, gob⟩ ((d, v) :: sl) ob lo') else False
      | some ⟨p, some v, [], ad, lo'⟩ => bif !(noV op) && frAll sl ob (names lo (lo' - lo)) && ad.all (fun x => lo.ble x.1 && x.1.blt lo') then impS b w p (k ⟨j, w, t, b, (d, dead) :: gsl, gob⟩ ((d, v) :: sl) (ad ++ ob) lo') else False
      | _ => False) else False
  | none => False
/-- The end of a guarded part: c && x, c || x. -/
def wpPick (N : Nat) (w : Bool) (t : Nat) (b : Bool) (gsl : List (Nat × Sv)) (gob : List (Nat × So)) (o : Oper) (sl : List (Nat × Sv)) (lo : Nat) (k : KS) : Prop := match o.op, o.dst with
  | .pick (.tmp t') x y, some d => bif t'.beq t && d.blt N then (match w with
    | true => match boolOf sl x, constB y with
      | some r, some false => k ((d, .val (.one (.bool (b && r)))) :: gsl) gob lo
      | _, _ => False
    | false => match constB x, boolOf sl y with
      | some true, some r => k ((d, .val (.one (.bool (b || r)))) :: gsl) gob lo
      | _, _ => False) else False
  | _, _ => False
def wpM (P : Program) (T : Tab) (N : Nat) (ops : Array Oper) (k : KS) (l : List Oper) : Option GM → KS :=
  List.rec (fun m sl ob lo => match m with
    | none => k sl ob lo
    | some _ => False)
    (fun o _ ih m sl ob lo => match m, o.guard with
      | none, none => wpOne P T N o sl ob lo (ih none)
      | none, some (j, w) => match (ops[j]?).bind (·.dst) with
        | some t => match boolAt sl t with
          | some b => wpGd P T N j w t b sl ob o sl ob lo fun g => ih (some g)
          | none => False
        | none => False
      | some ⟨gj, gw, gt, gb, gsl, gob⟩, some (j, w) => bif j.beq gj && (w == gw) then wpGd P T N gj gw gt gb gsl gob o sl ob lo fun g => ih (some g) else False
      | some ⟨gj, gw, gt, gb, gsl, gob⟩, none => wpPick N gw gt gb gsl gob o sl lo (ih none)) l

section
variable {P : Program} {Q : Exit → Act → World → Prop} {X : Ctx} {K : List Item} {T : Tab} {N : Nat} {ops : Array Oper}

theorem rmOb_eq (ns : List Nat) (ob : List (Nat × So)) : rmOb ns ob = ob.filter fun x => !(ns.any x.1.beq) := by
  unfold rmOb
  split
  · exact (List.filter_eq_self.2 fun x _ => rfl).symm
  · rfl
theorem ap_den {e : SE} {d : Option Nat} {lo : Nat} {sl : List (Nat × Sv)} {ob : List (Nat × So)} {σ : SS} : (e.eff d lo σ).ap (SS.den ⟨sl, ob⟩) = SS.den ⟨e.dst d ++ sl, e.ad ++ rmOb e.rm ob⟩ := by
  show (⟨denSl (e.dst d) ++ _, denOb e.ad ++ List.filter _ _⟩ : St) = ⟨List.map _ _, List.map _ _⟩
  rw [List.map_append, List.map_append, rmOb_eq]
  congr 2
  show List.filter _ (List.map _ ob) = List.map _ (List.filter _ ob)
  rw [List.filter_map]
  rfl

theorem opS_ok (hT : TabOK P T) {σ : SS} {τ : St} (hs : SubS σ τ) {o : Oper} {lo : Nat} {e : SE} (h : opS T σ lo o.op = some e) (hp : Holds e.obl) (hd : dstS X.N o = true) (hf : ∀ n, lo ≤ n → n < e.lo → τ.fresh n = true) : StepS P X o τ ((e.eff o.dst lo σ).ap τ) := by
  unfold opS at h
  split at h
  · rename_i p v hv
    injection h with h; subst h
    unfold dstS at hd
    split at hd
    · rename_i d hdst
      rw [Bool.and_eq_true] at hd
      have := valS_ok (X := X) hT hs hv hp hdst (nlt hd.1)
      rw [ap0 rfl, hdst]; exact this
    · rename_i hdst
      exfalso
      cases ho : o.op <;> rw [ho] at hd hv <;> simp [noV] at hd
      simp [valS] at hv
  · unfold dstS at hd
    split at hd
    · rename_i d hdst
      rw [Bool.and_eq_true] at hd
      refine memS_ok (d := d) hT hs h hp ?_ hf
      have : noV o.op = false := by simpa using hd.2
      rw [if_neg (by rw [this]; simp)]
      exact ⟨hdst, nlt hd.1⟩
    · rename_i hdst
      refine memS_ok (d := 0) hT hs h hp ?_ hf
      rw [if_pos hd]; exact hdst

theorem nextS_iff {p : Option Prop} {q : Prop} (h : nextS p q) : Holds p ∧ q := by
  cases p with
  | none => exact ⟨trivial, h⟩
  | some p => exact h

theorem capsD_ok : ∀ {l cs : List Sc}, capsD l = some cs → cs = l ∧ isDL l = true
  | [], cs, h => by simp only [capsD, Option.some.injEq] at h; subst h; exact ⟨rfl, rfl⟩
  | c :: l, cs, h => by
    simp only [capsD] at h
    cases hc : isD c with
    | false => rw [hc, cond_false] at h; cases h
    | true =>
      rw [hc, cond_true] at h
      split at h
      · rename_i cs' hcs
        injection h with h; subst h
        obtain ⟨rfl, h2⟩ := capsD_ok hcs
        exact ⟨rfl, by simp [isDL, hc, h2]⟩
      · cases h
theorem cap_isD {c : Sc} (h : isD c = true) : c.cap = .dt c.pred := by cases c <;> first | rfl | cases h
theorem caps_den : ∀ {l : List Sc}, isDL l = true → l.map Sc.cap = (predL l).map .dt
  | [], _ => by rw [predL]; rfl
  | c :: l, h => by
    simp only [isDL, Bool.and_eq_true] at h
    rw [predL, List.map_cons, List.map_cons, cap_isD h.1, caps_den h.2]
theorem caps_parts : ∀ {l : List Sc}, isDL l = true → (l.map Sp.one).map Sp.den = (predL l).map fun q => .one (.dat q)
  | [], _ => by rw [predL]; rfl
  | c :: l, h => by
    simp only [isDL, Bool.and_eq_true] at h
    rw [predL]
    simp only [List.map_cons]
    rw [caps_parts h.2]
    show Part.one (Sc.den c) :: _ = _
    rw [isD_den h.1]

/-- A call, its hypothesis met. -/
theorem step_call1 (hT : TabOK P T) (hG : CG X) {τ : St} {σ : SS} (hs : SubS σ τ) {o : Oper} {g : Operand} {xs : Array Operand} {ts : Array TypeId} {c : Sc} {ps : List Sp} (ho : o.op = .call ⟨.value g, xs, ts⟩) (hg : one σ.sl g = some c) (hps : partsS σ.sl xs.toList = some ps)
    {f : FuncId} {caps cs : List Sc} {fn : Func} {args res : List Sp} (hc : c = .clo f caps) (hf : T.fn f = some fn) (hcs : capsD caps = some cs) (hp : SPC P f args res) (hle : LeS (ps ++ cs.map Sp.one) args) :
    (∀ d, o.dst = some d → d < X.N → StepS P X o τ (τ.put d (resS res).den)) ∧ (o.dst = none → StepS P X o τ τ) := by
  subst hc
  obtain ⟨rfl, hD⟩ := capsD_ok hcs
  have hg' : τ.opd g = some (.val (.one (.clo f ((predL cs).map .dt)))) := by
    have := opd1 hs hg
    rw [this]
    show some (AV.val (.one (.clo f (cs.map Sc.cap)))) = _
    rw [caps_den hD]
  have hle' : LeL (ps.map Sp.den ++ (predL cs).map fun q => .one (.dat q)) (args.map Sp.den) := by
    have : LeL ((ps ++ cs.map Sp.one).map Sp.den) (args.map Sp.den) := hle
    rw [List.map_append, caps_parts hD] at this
    exact this
  refine ⟨fun d hd hN => ?_, fun hd => ?_⟩
  · rw [resS_den]
    exact step_calld ho hd hN (hT.fn _ _ hf).2 hg' (partsS_ok hs hps) hle' hp.pa hp.pr hG hp.pc
  · exact step_calld0 ho hd (hT.fn _ _ hf).2 hg' (partsS_ok hs hps) hle' hp.pa hG hp.pc
theorem step_callv0 {α : Type} {A B : α → List Part} (y : α) {τ : St} {o : Oper} {g : Operand} {xs : Array Operand} {ts : Array TypeId} {ps : List Part} (ho : o.op = .call { callee := .value g, args := xs, argTypes := ts }) (hd : o.dst = none) (hg : τ.opd g = some (D (fnP P A B)))
    (hp : τ.parts xs.toList = some ps) (hle : LeL ps (A y)) (hpa : (A y).all Part.pure = true) (hG : CG X) : StepS P X o τ τ := by
  intro a w ⟨ι, F, hr⟩
  obtain ⟨⟨f, first, caps, hc, hf, hcall⟩, _⟩ := hr.opd hg
  unfold Oper.wp
  rw [run_call ho hc hf w, Oper.upon_enter]
  have hargs := partsRel_pure hpa (κ := ι0) (hle.rel (hr.parts hp))
  have := hcall y w (Mof X.M0 F) (xs.toList.map a.eval) (Ext.refl _ _) (fun _ _ _ h => h) (hG w hr.kept) (mof_lt hr) hargs
  have he : (first ++ xs.map a.eval ++ caps : Array Value) = first ++ (xs.toList.map a.eval).toArray ++ caps := by cases xs; simp
  rw [he]
  refine this.mono fun e w' ⟨rs, hret, hres, hb⟩ => ?_
  subst hret
  simp only [hd]
  exact ⟨ι, F, hr.world (Kept.of_below hb _)⟩
theorem step_call2 (hG : CG X) {τ : St} {σ : SS} (hs : SubS σ τ) {o : Oper} {g : Operand} {xs : Array Operand} {ts : Array TypeId} {p : Pred} {ps : List Sp} (ho : o.op = .call ⟨.value g, xs, ts⟩) (hg : one σ.sl g = some (.pr p)) (hps : partsS σ.sl xs.toList = some ps)
    {args res : List Sp} (hp : CallsP P p args res) (hle : LeS ps args) :
    (∀ d, o.dst = some d → d < X.N → StepS P X o τ (τ.put d (resS res).den)) ∧ (o.dst = none → StepS P X o τ τ) := by
  obtain ⟨α, A, B, y, rfl, hA, hB, h1, h2⟩ := hp
  have hg' := opd1 hs hg
  refine ⟨fun d hd hN => ?_, fun hd => ?_⟩
  · rw [resS_den, ← hB]
    exact step_callv y ho hd hN hg' (partsS_ok hs hps) (by rw [hA]; exact hle) (by rw [hA]; exact h1) (by rw [hB]; exact h2) hG
  · exact step_callv0 y ho hd hg' (partsS_ok hs hps) (by rw [hA]; exact hle) (by rw [hA]; exact h1) hG

theorem wpCall_ok (hT : TabOK P T) (hG : CG X) {τ : St} {σ : SS} (hs : SubS σ τ) {o : Oper} {g : Operand} {xs : Array Operand} {ts : Array TypeId} {c : Sc} {ps : List Sp} (ho : o.op = .call ⟨.value g, xs, ts⟩) (hg : one σ.sl g = some c) (hps : partsS σ.sl xs.toList = some ps)
    {hyp : Prop → Prop} {k : Sv → Prop} (h : wpCall P T N c ps hyp k) : ∃ (v : Sv) (p : Prop), hyp p ∧ (p → (∀ d, o.dst = some d → d < X.N → StepS P X o τ (τ.put d v.den)) ∧ (o.dst = none → StepS P X o τ τ)) ∧ k v := by
  unfold wpCall at h
  split at h
  · rename_i f caps
    split at h
    · rename_i fn cs hf hcs
      obtain ⟨res, h1, h2⟩ := h
      exact ⟨resS res, _, h1, fun ⟨args, h3, h4⟩ => step_call1 hT hG hs ho hg hps rfl hf hcs h3 h4, h2⟩
    · exact h.elim
  · rename_i p
    obtain ⟨res, h1, h2⟩ := h
    exact ⟨resS res, _, h1, fun ⟨args, h3, h4⟩ => step_call2 hG hs ho hg hps h3 h4, h2⟩
  · exact h.elim

theorem wpOne_ok (hT : TabOK P T) (hG : CG X) (hN : X.N = N) {o : Oper} {sl : List (Nat × Sv)} {ob : List (Nat × So)} {lo : Nat} {k : KS} (h : wpOne P T N o sl ob lo k) : ∃ sl' ob' lo', StepS P X o (SS.den ⟨sl, ob⟩) (SS.den ⟨sl', ob'⟩) ∧ k sl' ob' lo' := by
  unfold wpOne at h
  split at h
  · rename_i g xs ts ho
    split at h
    · rename_i c ps hg hps
      cases hd : okD N o.dst with
      | false => rw [hd, cond_false] at h; exact h.elim
      | true =>
        rw [hd, cond_true] at h
        obtain ⟨v, p, hp, hst, hk⟩ := wpCall_ok (X := X) hT hG (SubS.rfl' ⟨sl, ob⟩) ho hg hps h
        obtain ⟨h1, h2⟩ := hst hp
        refine ⟨_, _, _, ?_, hk⟩
        cases hdst : o.dst with
        | none => exact h2 hdst
        | some d => rw [hdst] at hd; exact h1 d hdst (by rw [hN]; exact nlt hd)
    · exact h.elim
  · split at h
    · rename_i p v rm ad lo' he
      cases hb : dstS N o && frAll sl ob (names lo (lo' - lo)) with
      | false => rw [hb, cond_false] at h; exact h.elim
      | true =>
        rw [hb, cond_true] at h
        rw [Bool.and_eq_true] at hb
        obtain ⟨h1, h2⟩ := nextS_iff h
        rw [putK_eq o.dst p] at h2
        refine ⟨_, _, _, ?_, h2⟩
        have := opS_ok (X := X) hT (SubS.rfl' ⟨sl, ob⟩) he h1 (by rw [hN]; exact hb.1) fun n h3 h4 => (frAll_ok hb.2 n (mem_names.2 ⟨h3, by have h4 : n < lo' := h4; omega⟩)).1
        rw [ap_den] at this
        exact this
    · exact h.elim
end
end -- nc
end Go.Proofs.YtgjbehfdjnekdaaGreatDoor.Sy
end
