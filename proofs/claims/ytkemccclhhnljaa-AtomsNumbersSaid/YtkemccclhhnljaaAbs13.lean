/-
  The abstract machine and the model: the whole.
-/
import Derived.Test.YtkemccclhhnljaaAbs12
namespace Go.Abs
open Go.RowKit
set_option linter.unusedVariables false
set_option linter.unusedSimpArgs false

section
variable {P : Program} {G base : Nat}

theorem region_ok (hP : PG P) {callF : CallF} {yieldF : YieldF} (hcall : CallOk P G base callF) (hyield : YieldOk P G base yieldF) (rd : Option Nat) (id : Nat) (ops : Array Oper) {s s1 : St} (h : rgn P G callF yieldF ops.toList ops.toList s = some s1) :
    One P G base rd (.region id ops false) s .norm s1 := by
  intro ρ a w r n Q hs hrd hQ
  have := rgn_ok hP hcall hyield ops r n (Q := Q) ops.toList 0 ρ s s1 a w (by simp) (by simp) h hs hQ
  refine wpIn_region ?_
  rw [List.range_eq_range']
  simpa using this

def enterD (r : Option Nat) : Sem (Nat × List Deferred) := match r with
  | some l => do pure ((← Instr.getLoop l).defers, [])
  | none => do
    let r ← newObj (.deferred (some []))
    pure (r, [{ target := .collected r, args := #[] }])
theorem enterLoop_eq (fn : FuncId) (tmps : Array Value) (ps : Array Tmp) (as bd : Code) (r : Option Nat) : Instr.enterLoop fn tmps ps as bd r = (do
    let x ← enterD r
    let l ← newObj (.loop { state := .ready, pending := none, fn, tmps, params := ps, assign := as, body := bd, defers := x.1 })
    pure (l, x.2)) := by
  cases r <;> simp [Instr.enterLoop, enterD]

theorem rangeFunc_ok (hP : PG P) {callF : CallF} (hcall : CallOk P G base callF) {rd : Option Nat} {f : Operand} {params : Array Tmp} {as bd : Code} {s s1 : St} {e : Ex} (has : codeOk P as = true) (hbd : codeOk P bd = true) {fv : Value} (hf : ev G s.T f = some fv) {d : Nat} {M0 M1 M2 M3 : Mem} {mark : List Nat} {l : Nat} {v : Value}
    (henter : (∃ l0 st p fn T nt ps a b, rd = some l0 ∧ s.M.get l0 = some (.loop st p fn T nt ps a b d) ∧ M0 = s.M ∧ mark = []) ∨ (rd = none ∧ s.M.new .ddef = some (d, M0) ∧ mark = [d]))
    (hl : M0.new (.loop .ready none 0 s.T s.nt params.toList as bd d) = some (l, M1)) (hc : callV callF (fun _ _ _ => none) fv [.func (.yield l) #[] #[]] M1 = some (v, M2))
    {st : LoopState} {p : Option Code} {fn : FuncId} {T : Tr Value} {nt : Nat} {ps : List Tmp} {a2 b2 : Code} {d2 : Nat} (hg : M2.get l = some (.loop st p fn T nt ps a2 b2 d2)) (hst : st ≠ .busy) (hp : M2.put l (.loop .exhausted p fn T nt ps a2 b2 d2) = some M3)
    (hend : (p = none ∧ e = .norm) ∨ (∃ i, p = some (.exit i) ∧ e = .exit i) ∨ (∃ i, p = some (.goto i) ∧ e = .goto i) ∨ (p = some .ret ∧ e = .ret)) (hs1 : s1 = { s with M := M3, D := mark ++ s.D }) :
    One P G base rd (.rangeFunc f params as bd) s e s1 := by
  intro ρ a w r n Q hs hrd hQ
  refine wpIn_rangeFunc fun fn0 _ => ?_
  -- the block for the deferred calls
  have hent : ∃ ρ0 w0 ld marks, ρ.le ρ0 ∧ HR P G base ρ0 M0 w0 ∧ Below base w w0 ∧ ρ0 d = some ld ∧ ld.off = 0 ∧ DR ρ0 (mark ++ s.D) (marks ++ a.defers) ∧
      (enterD r).run P w = .ok (ld.g, marks) w0 := by
    rcases henter with ⟨l0, st0, p0, fn0, T0, nt0, ps0, aa, bb, rfl, hg0, rfl, rfl⟩ | ⟨rfl, hn, rfl⟩
    · obtain ⟨loc, hloc, h0, rfl⟩ := hrd
      obtain ⟨r0, e1, _, _, _, _, _, _, _, _, ⟨ld, k1, k2, k3⟩, _⟩ := setLoop hs.M hloc hg0
      refine ⟨ρ, w, ld, [], Ren.le.refl _, hs.M, Below.refl _ _, k1, k2, by simpa using hs.D, ?_⟩
      simp [enterD, Instr.getLoop, getObj, Sem.run_bind, Sem.run, e1, k3]
    · have hr : r = none := hrd
      subst hr
      obtain ⟨k1, k2, k3⟩ := hs.M.new (l := ⟨w.heap.size, 0, 0, none⟩) hn (nw_alloc w (.deferred (some []))) rfl rfl
      have hadd := Ren.add_at ρ d ⟨w.heap.size, 0, 0, none⟩
      refine ⟨_, _, _, [({ target := .collected w.heap.size, args := #[] } : Deferred)], k2, k1, k3, hadd, rfl, ⟨by have := hs.D.1; simp; omega, fun i d' hd' => ?_⟩, ?_⟩
      · cases i with
        | zero =>
          simp at hd'; subst hd'
          exact ⟨_, hadd, rfl, rfl⟩
        | succ i =>
          obtain ⟨l', q1, q2, q3⟩ := hs.D.2 i d' (by simpa using hd')
          exact ⟨l', k2 _ _ q1, q2, by simpa using q3⟩
      · simp [enterD, newObj, Sem.run_bind, Sem.run]
  obtain ⟨ρ0, w0, ld, marks, hle0, hM0, hb0, hld, hld0, hD0, hrun0⟩ := hent
  -- the loop
  obtain ⟨k1, k2, k3⟩ := hM0.new (l := ⟨w0.heap.size, 0, 0, none⟩) hl (nw_alloc w0 (.loop { state := .ready, pending := none, fn := fn0, tmps := a.tmps, params := params, assign := as, body := bd, defers := ld.g })) rfl
    ⟨rfl, rfl, rfl, rfl, rfl, rfl, (hs.T.mono hle0).mono (Ren.add_le _ (hM0.fresh _ (by rw [(new_get hl).1]; exact Nat.le_refl _))), ⟨ld, Ren.add_le _ (hM0.fresh _ (by rw [(new_get hl).1]; exact Nat.le_refl _)) _ _ hld, hld0, rfl⟩, has, hbd⟩
  generalize hwl : w0.alloc (.loop { state := .ready, pending := none, fn := fn0, tmps := a.tmps, params := params, assign := as, body := bd, defers := ld.g }) = wL at k1 k3
  have hadd := Ren.add_at ρ0 l ⟨w0.heap.size, 0, 0, none⟩
  have hle1 := hle0.trans k2
  have rf := ev_ok hs.T hs.M.glob hf
  unfold callV at hc
  split at hc
  rotate_left
  · cases hc
  · cases hc
  rename_i g first caps
  generalize hfe : a.eval f = f' at rf
  cases rf with
  | func _ _ _ first' caps' h1 h2 =>
    obtain ⟨⟨fnd, c, hfn, hbody⟩, hcc⟩ := hcall _ _ _ _ _ hc
    have hargs : LR (ρ0.add l ⟨w0.heap.size, 0, 0, none⟩) (first.toList ++ [Value.func (.yield l) #[] #[]] ++ caps.toList) ((first' ++ #[Value.func (.yield w0.heap.size) #[] #[]]) ++ caps').toList := by
      simp only [Array.toList_append]
      exact ((h1.mono hle1).append (.cons _ _ _ _ (.yield l _ hadd rfl) .nil)).append (h2.mono hle1)
    refine ⟨w0.heap.size, marks, wL, { target := .fn (.func g) caps', args := first' ++ #[Value.func (.yield w0.heap.size) #[] #[]] }, wL, g, (first' ++ #[Value.func (.yield w0.heap.size) #[] #[]]) ++ caps', wL, ?_, ?_, fun f' _ => fw_fn r f', ?_, fw_depth r n, ?_⟩
    · show (Instr.enterLoop fn0 a.tmps params as bd r).run P w = _
      rw [enterLoop_eq]
      simp only [Sem.run_bind, hrun0, Result.andThen_ok]
      rw [← hwl]
      simp [newObj, Sem.run]
    · have hconst : a.eval (.const (.func (.yield w0.heap.size) #[] #[])) = .func (.yield w0.heap.size) #[] #[] := rfl
      simp [resolve, hfe, Deferred.ofValue, hconst]
    · have hname := hP.names g fnd hfn
      simp [invoke, callFunc, program, Sem.run, hfn, hbody, hname]
    · refine (hcc _ _ _ r (n - 1) hargs k1).mono ?_
      rintro en w3 ⟨v', ρ3, rfl, g1, g2, g3, g4⟩
      obtain ⟨rr, q1, q2, q3, _, _, _, _, _, _, _, qset⟩ := setLoop g3 (g1 _ _ hadd) hg
      obtain ⟨m1, m2⟩ := qset _ _ _ _ hp
      have hle3 := hle1.trans g1
      have hle03 := k2.trans g1
      have hSR : SR P G base ρ3 s1 { a with defers := marks ++ a.defers } { w3 with heap := w3.heap.setIfInBounds w0.heap.size (.loop { rr with state := .exhausted, pending := p }) } := by
        subst hs1
        exact ⟨hs.T.mono hle3, m1, hD0.mono hle03⟩
      have hQ' := hQ _ _ ρ3 hle3 hSR (hb0.trans (k3.trans (g4.trans m2)))
      refine ⟨p, { w3 with heap := w3.heap.setIfInBounds w0.heap.size (.loop { rr with state := .exhausted, pending := p }) }, ?_, ?_⟩
      · subst q3
        have hnb : (rr.state == LoopState.busy) = false := by
          rw [q2]
          cases st <;> first | rfl | exact absurd rfl hst
        have hnb' : ¬ rr.state = LoopState.busy := by rw [q2]; exact hst
        simp [Instr.endLoop, Instr.getLoop, getObj, setObj, Sem.run_bind, Sem.run, q1, hnb, hnb']
      · rcases hend with ⟨rfl, rfl⟩ | ⟨i, rfl, rfl⟩ | ⟨i, rfl, rfl⟩ | ⟨rfl, rfl⟩
        · exact hQ'
        · exact wpIn_exit hQ'
        · exact wpIn_goto hQ'
        · exact wpIn_ret hQ'
end
end Go.Abs
