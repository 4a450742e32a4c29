/-
  The abstract machine and the model: a run is a call.
-/
import Derived.Test.YtkemccclhhnljaaAbs13
namespace Go.Abs
open Go.RowKit
set_option linter.unusedVariables false
set_option linter.unusedSimpArgs false

section
variable {P : Program} {G base : Nat}

theorem exec_ok (hP : PG P) : ∀ n, ExOk P G base (exec P G n)
  | 0 => fun rd c s e s1 h => by cases h
  | n + 1 => by
    have ih := exec_ok hP n
    have hcall := call_of hP ih
    have hyield := yield_of ih
    intro rd c s e s1 h hc
    cases c with
    | skip =>
      simp only [exec, Option.some.injEq, Prod.mk.injEq] at h
      obtain ⟨rfl, rfl⟩ := h
      exact fun ρ a w r n Q hs _ hQ => wpIn_skip (hQ a w ρ (Ren.le.refl _) hs (Below.refl _ _))
    | label l =>
      simp only [exec, Option.some.injEq, Prod.mk.injEq] at h
      obtain ⟨rfl, rfl⟩ := h
      exact fun ρ a w r n Q hs _ hQ => wpIn_label (hQ a w ρ (Ren.le.refl _) hs (Below.refl _ _))
    | exit i =>
      simp only [exec, Option.some.injEq, Prod.mk.injEq] at h
      obtain ⟨rfl, rfl⟩ := h
      exact fun ρ a w r n Q hs _ hQ => wpIn_exit (hQ a w ρ (Ren.le.refl _) hs (Below.refl _ _))
    | goto i =>
      simp only [exec, Option.some.injEq, Prod.mk.injEq] at h
      obtain ⟨rfl, rfl⟩ := h
      exact fun ρ a w r n Q hs _ hQ => wpIn_goto (hQ a w ρ (Ren.le.refl _) hs (Below.refl _ _))
    | ret =>
      simp only [exec, Option.some.injEq, Prod.mk.injEq] at h
      obtain ⟨rfl, rfl⟩ := h
      exact fun ρ a w r n Q hs _ hQ => wpIn_ret (hQ a w ρ (Ren.le.refl _) hs (Below.refl _ _))
    | refuse x => simp [exec] at h
    | region id ops draw =>
      cases draw with
      | false =>
        simp only [exec] at h
        split at h
        · rename_i s2 hx
          simp only [Option.some.injEq, Prod.mk.injEq] at h
          obtain ⟨rfl, rfl⟩ := h
          exact region_ok hP hcall hyield rd id ops hx
        · cases h
      | true =>
        simp only [exec] at h
        split at h
        · rename_i s2 hx hchk
          simp only [Option.some.injEq, Prod.mk.injEq] at h
          obtain ⟨rfl, rfl⟩ := h
          simp only [codeOk, Bool.not_true, Bool.false_or] at hc
          exact fun ρ a w r n Q hs _ hQ => draw_ok hP hcall hyield hc hx hchk hs id r n hQ
        · cases h
    | seq x y =>
      simp only [codeOk, Bool.and_eq_true] at hc
      simp only [exec] at h
      intro ρ a w r m Q hs hrd hQ
      refine wpIn_seq ?_
      cases hx : exec P G n rd x s with
      | none => rw [hx] at h; cases h
      | some p =>
        obtain ⟨e2, s2⟩ := p
        rw [hx] at h
        refine ih rd x s e2 s2 hx hc.1 ρ a w r m _ hs hrd fun a' w' ρ' h1 h2 h3 => ?_
        cases e2 with
        | norm => exact ih rd y s2 e s1 h hc.2 ρ' a' w' r m Q h2 (hrd.mono h1) fun a2 w2 ρ2 k1 k2 k3 => hQ a2 w2 ρ2 (h1.trans k1) k2 (h3.trans k3)
        | exit i =>
          simp only [Option.some.injEq, Prod.mk.injEq] at h
          obtain ⟨rfl, rfl⟩ := h
          exact hQ a' w' ρ' h1 h2 h3
        | goto i =>
          simp only [Option.some.injEq, Prod.mk.injEq] at h
          obtain ⟨rfl, rfl⟩ := h
          exact hQ a' w' ρ' h1 h2 h3
        | ret =>
          simp only [Option.some.injEq, Prod.mk.injEq] at h
          obtain ⟨rfl, rfl⟩ := h
          exact hQ a' w' ρ' h1 h2 h3
    | cond x y z =>
      simp only [codeOk, Bool.and_eq_true] at hc
      simp only [exec] at h
      intro ρ a w r m Q hs hrd hQ
      split at h
      · rename_i hx
        have hv := ev_ok hs.T hs.M.glob hx
        generalize hxe : a.eval x = x' at hv
        cases hv
        exact wpIn_cond_true hxe (ih rd y s e s1 h hc.1 ρ a w r m Q hs hrd hQ)
      · rename_i hx
        have hv := ev_ok hs.T hs.M.glob hx
        generalize hxe : a.eval x = x' at hv
        cases hv
        exact wpIn_cond_false hxe (ih rd z s e s1 h hc.2 ρ a w r m Q hs hrd hQ)
      · cases h
    | block i b =>
      simp only [codeOk] at hc
      simp only [exec] at h
      intro ρ a w r m Q hs hrd hQ
      refine wpIn_block ?_
      cases hx : exec P G n rd b s with
      | none => rw [hx] at h; cases h
      | some p =>
        obtain ⟨e2, s2⟩ := p
        rw [hx] at h
        refine ih rd b s e2 s2 hx hc ρ a w r m _ hs hrd fun a' w' ρ' h1 h2 h3 => ?_
        cases e2 with
        | norm =>
          simp only [Option.some.injEq, Prod.mk.injEq] at h
          obtain ⟨rfl, rfl⟩ := h
          exact hQ a' w' ρ' h1 h2 h3
        | exit j =>
          simp only at h
          cases hb : Nat.beq j i with
          | true =>
            rw [hb] at h
            simp only [Option.some.injEq, Prod.mk.injEq] at h
            obtain ⟨rfl, rfl⟩ := h
            have := Nat.eq_of_beq_eq_true hb
            subst this
            simp only [exOf, Exit.inBlock, if_true]
            exact hQ a' w' ρ' h1 h2 h3
          | false =>
            rw [hb] at h
            simp only [Option.some.injEq, Prod.mk.injEq] at h
            obtain ⟨rfl, rfl⟩ := h
            have hne : ¬ j = i := fun hj => by subst hj; rw [Nat.beq_refl] at hb; cases hb
            simp only [exOf, Exit.inBlock, if_neg hne]
            exact hQ a' w' ρ' h1 h2 h3
        | goto j =>
          simp only [Option.some.injEq, Prod.mk.injEq] at h
          obtain ⟨rfl, rfl⟩ := h
          exact hQ a' w' ρ' h1 h2 h3
        | ret =>
          simp only [Option.some.injEq, Prod.mk.injEq] at h
          obtain ⟨rfl, rfl⟩ := h
          exact hQ a' w' ρ' h1 h2 h3
    | loop b =>
      simp only [codeOk] at hc
      simp only [exec] at h
      exact fun ρ a w r m Q hs hrd hQ => wpIn_loop_rounds 100000 (loop_ok (fun s e s1 hx => ih rd b s e s1 hx hc) 100000 s e s1 h ρ a w r m Q hs hrd hQ)
    | scope b =>
      simp only [codeOk] at hc
      simp only [exec] at h
      exact fun ρ a w r m Q hs hrd hQ => wpIn_scope_rounds 1000 (scope_ok hc (fun c s e s1 hx hcc => ih rd c s e s1 hx hcc) 1000 b s e s1 h hc ρ a w r m Q hs hrd hQ)
    | rangeFunc f params as bd =>
      simp only [codeOk, Bool.and_eq_true] at hc
      simp only [exec] at h
      split at h
      · cases h
      rename_i fv hf
      split at h
      · cases h
      rename_i d M0 mark henter
      split at h
      · cases h
      rename_i l M1 hl
      split at h
      · cases h
      rename_i v M2 hcv
      split at h
      · cases h
      · rename_i st p fn T nt ps a2 b2 d2 hst' hg
        split at h
        · cases h
        rename_i M3 hp
        have hent : (∃ l0 st p fn T nt ps a b, rd = some l0 ∧ s.M.get l0 = some (.loop st p fn T nt ps a b d) ∧ M0 = s.M ∧ mark = []) ∨ (rd = none ∧ s.M.new .ddef = some (d, M0) ∧ mark = [d]) := by
          cases rd with
          | none =>
            simp only at henter
            split at henter
            · rename_i d' M' hn
              simp only [Option.some.injEq, Prod.mk.injEq] at henter
              obtain ⟨rfl, rfl, rfl⟩ := henter
              exact .inr ⟨rfl, hn, rfl⟩
            · cases henter
          | some l0 =>
            simp only at henter
            split at henter
            · rename_i hg0
              simp only [Option.some.injEq, Prod.mk.injEq] at henter
              obtain ⟨rfl, rfl, rfl⟩ := henter
              exact .inl ⟨l0, _, _, _, _, _, _, _, _, rfl, hg0, rfl, rfl⟩
            · cases henter
        split at h
        · simp only [Option.some.injEq, Prod.mk.injEq] at h
          obtain ⟨rfl, rfl⟩ := h
          exact rangeFunc_ok hP hcall hc.1 hc.2 hf hent hl hcv hg hst' hp (.inl ⟨rfl, rfl⟩) rfl
        · rename_i i
          simp only [Option.some.injEq, Prod.mk.injEq] at h
          obtain ⟨rfl, rfl⟩ := h
          exact rangeFunc_ok hP hcall hc.1 hc.2 hf hent hl hcv hg hst' hp (.inr (.inl ⟨i, rfl, rfl⟩)) rfl
        · rename_i i
          simp only [Option.some.injEq, Prod.mk.injEq] at h
          obtain ⟨rfl, rfl⟩ := h
          exact rangeFunc_ok hP hcall hc.1 hc.2 hf hent hl hcv hg hst' hp (.inr (.inr (.inl ⟨i, rfl, rfl⟩))) rfl
        · simp only [Option.some.injEq, Prod.mk.injEq] at h
          obtain ⟨rfl, rfl⟩ := h
          exact rangeFunc_ok hP hcall hc.1 hc.2 hf hent hl hcv hg hst' hp (.inr (.inr (.inr ⟨rfl, rfl⟩))) rfl
        · cases h
      · cases h

/-- A run of the abstract machine is a call of the model's. -/
theorem run_ok (hP : PG P) {n : Nat} {f : FuncId} {args : List Value} {M M1 : Mem} {v : Value} (h : run P G n f args M = some (v, M1)) {ρ : Ren} {args' : Array Value} {w : World} (ra : LR ρ args args'.toList) (hM : HR P G base ρ M w) :
    Calls P f args' w (CallPost P G base ρ w v M1) :=
  (callsIn_wide (n := 0)).1 (((call_of hP (exec_ok hP n)) f args M v M1 h).2 ρ args' w none 0 ra hM)

theorem pg_of (h : progOk P = true) : PG P := by
  unfold progOk at h
  simp only [Bool.and_eq_true, List.all_eq_true, Bool.not_eq_true'] at h
  have hmem : ∀ (f : FuncId) (fn : Func), P.funcs[f]? = some fn → fn ∈ P.funcs.toList := fun f fn hf => by
    have := Array.mem_of_getElem? hf
    simpa using this
  refine ⟨h.1, fun f fn c hf hb => ?_, fun f fn hf => ?_⟩
  · have := (h.2 fn (hmem f fn hf)).2
    rw [hb] at this
    exact this
  · have := (h.2 fn (hmem f fn hf)).1
    simpa using this
end
end Go.Abs
