/-
  The abstract machine and the model: regions, in the text's order and in any order.
-/
import Derived.Test.YtkemccclhhnljaaAbs8
namespace Go.Abs
open Go.RowKit
set_option linter.unusedVariables false
set_option linter.unusedSimpArgs false

def fw (r : Option Nat) : Fence := { Fence.wide with round := r }
theorem fw_fn (r : Option Nat) (f : FuncId) : (fw r).fn f := trivial
theorem fw_depth (r : Option Nat) (n : Nat) : (fw r).depth.isSome = true → 1 ≤ n := fun h => by cases h
theorem fw_none : fw none = Fence.wide := rfl

/-- What a call gives. -/
def CallPost (P : Program) (G base : Nat) (ρ : Ren) (w : World) (v : Value) (M1 : Mem) (e : Ending) (w' : World) : Prop :=
  ∃ v' ρ', e = .returned v' ∧ ρ.le ρ' ∧ VR ρ' v v' ∧ HR P G base ρ' M1 w' ∧ Below base w w'

def CallOk (P : Program) (G base : Nat) (callF : CallF) : Prop := ∀ f args M v M1, callF f args M = some (v, M1) → (∃ fn c, P.funcs[f]? = some fn ∧ fn.body = some c) ∧
  ∀ ρ args' w r n, LR ρ args args'.toList → HR P G base ρ M w → CallsIn (fw r) n P f args' w (CallPost P G base ρ w v M1)

def YieldOk (P : Program) (G base : Nat) (yieldF : YieldF) : Prop := ∀ l args M v M1, yieldF l args M = some (v, M1) → ∀ ρ loc args' w, ρ l = some loc → loc.off = 0 → LR ρ args args'.toList → HR P G base ρ M w →
  ∃ f tmps as bd, (Instr.yield loc.g args').run P w = .ok (.round loc.g f tmps as bd) w ∧ ∀ r n, RoundIn (fw r) n P loc.g f tmps as bd w (CallPost P G base ρ w v M1)

structure PG (P : Program) : Prop where
  mixed : P.follows .mixedOrders = true
  code : ∀ (f : FuncId) (fn : Func) (c : Code), P.funcs[f]? = some fn → fn.body = some c → codeOk P c = true
  names : ∀ (f : FuncId) (fn : Func), P.funcs[f]? = some fn → fn.name ≠ "runtime.NumGoroutine"

section
variable {P : Program} {G base : Nat} {ρ : Ren} {M M1 : Mem} {w w1 : World} {T : Tr Value} {nt : Nat} {a : Act} {callF : CallF} {yieldF : YieldF}

theorem opC_ok (hP : PG P) (hcall : CallOk P G base callF) (hyield : YieldOk P G base yieldF) (h : HR P G base ρ M w) (o : Oper) (hE : ∀ x ∈ o.op.operands, EvOk G ρ T a x) {v : Value}
    (hop : opC P G callF yieldF o T M = some (v, M1)) (r : Option Nat) (n : Nat) {K : Act → World → Prop} {Q : Exit → Act → World → Prop}
    (hK : ∀ v' w' ρ', ρ.le ρ' → VR ρ' v v' → HR P G base ρ' M1 w' → Below base w w' → K (a.put o.dst v') w') : o.wpIn (fw r) n P a w K Q := by
  refine ⟨fun f _ => fw_fn r f, ?_⟩
  unfold opC at hop
  split at hop
  · rename_i f args ats hop'
    split at hop
    rotate_left
    · cases hop
    rename_i fv us hf hargs
    have hsem : o.semAt (fw r).round a.eval = execOp a.eval o := Oper.semAt_eq _ _ _ (fun c => by rw [hop']; simp)
    rw [hsem]
    rw [hop'] at hE
    have rf := hE f (by simp [Op.operands, Call.operands]) _ hf
    have ra : LR ρ us (args.toList.map a.eval) := evs_ok (fun y hy => hE y (by simp [Op.operands, Call.operands] at hy ⊢; simp [hy])) hargs
    unfold callV at hop
    split at hop
    · rename_i g first caps
      obtain ⟨⟨fn, c, hfn, hbody⟩, hc⟩ := hcall _ _ _ _ _ hop
      generalize he : a.eval f = f' at rf
      cases rf with
      | func _ _ _ first' caps' h1 h2 =>
        have hl : LR ρ (first.toList ++ us ++ caps.toList) (first' ++ args.map a.eval ++ caps').toList := by
          simp only [Array.toList_append, Array.toList_map]
          exact (h1.append ra).append h2
        have hrun : (execOp a.eval o).run P w = .ok (.enter g (first' ++ args.map a.eval ++ caps')) w := by
          obtain ⟨dst, op, type, pos, after, guard⟩ := o
          simp only at hop'
          subst hop'
          simp [execOp, resolve, Deferred.ofValue, he, invoke, callFunc, hfn, hbody, hP.names g fn hfn]
        rw [hrun]
        simp only [Oper.uponIn]
        refine ⟨fw_depth r n, (hc ρ _ w r (n - 1) hl h).mono ?_⟩
        rintro e w' ⟨v', ρ', rfl, k1, k2, k3, k4⟩
        exact hK v' w' ρ' k1 k2 k3 k4
    · rename_i l xs ys
      generalize he : a.eval f = f' at rf
      cases rf with
      | yield _ loc h1 h2 =>
        have hl : LR ρ us (args.map a.eval).toList := by simpa using ra
        obtain ⟨f0, tmps, as, bd, hy1, hy2⟩ := hyield _ _ _ _ _ hop ρ loc (args.map a.eval) w h1 h2 hl h
        have hrun : (execOp a.eval o).run P w = .ok (.round loc.g f0 tmps as bd) w := by
          obtain ⟨dst, op, type, pos, after, guard⟩ := o
          simp only at hop'
          subst hop'
          simp [execOp, resolve, Deferred.ofValue, he, invoke, hy1]
        rw [hrun]
        simp only [Oper.uponIn]
        refine ⟨fw_depth r n, (hy2 r (n - 1)).mono ?_⟩
        rintro e w' ⟨v', ρ', rfl, k1, k2, k3, k4⟩
        exact hK v' w' ρ' k1 k2 k3 k4
    · cases hop
  · rename_i op hnc
    have hnd : ∀ c, o.op ≠ .defer c := by
      intro c hc
      rw [hc] at hop
      simp [opM] at hop
    rw [Oper.semAt_eq _ _ _ hnd]
    obtain ⟨v', w', ρ', k0, k1, k2, k3, k4⟩ := opM_ok h o hE hop
    rcases k0 with k0 | ⟨k0, rfl⟩
    · rw [k0]; exact hK v' w' ρ' k1 k2 k3 k4
    · rw [k0]; exact hK undef w' ρ' k1 k2 k3 k4

def DR (ρ : Ren) (D : List Nat) (ds : List Deferred) : Prop := ds.length = D.length ∧ ∀ (i d : Nat), D[i]? = some d → ∃ l, ρ d = some l ∧ l.off = 0 ∧ ds[i]? = some ({ target := .collected l.g, args := #[] } : Deferred)
theorem DR.mono {ρ' : Ren} (hle : ρ.le ρ') {D : List Nat} {ds : List Deferred} (h : DR ρ D ds) : DR ρ' D ds := ⟨h.1, fun i d hd => let ⟨l, h1, h2, h3⟩ := h.2 i d hd; ⟨l, hle _ _ h1, h2, h3⟩⟩

structure SR (P : Program) (G base : Nat) (ρ : Ren) (s : St) (a : Act) (w : World) : Prop where
  T : TR ρ s.T s.nt a.tmps
  M : HR P G base ρ s.M w
  D : DR ρ s.D a.defers

theorem evOk_of (hT : TR ρ T nt a.tmps) (hG : GR G ρ) (x : Operand) : EvOk G ρ T a x := fun _ h => ev_ok hT hG h

/-- is the operation wanted? -/
theorem wantB_ok {ops : Array Oper} {o : Oper} {b : Bool} (hg : ∀ j w g d, o.guard = some (j, w) → ops.toList[j]? = some g → g.dst = some d → VR ρ ((T.get d).getD undef) (a.tmps.getD d undef)) (h : wantB ops.toList o T = some b) :
    Region.wanted o (yielded ops a.tmps) = b := by
  unfold wantB at h
  unfold Region.wanted
  cases hgd : o.guard with
  | none => rw [hgd] at h; simp only [Option.some.injEq] at h; subst h; rfl
  | some p =>
    obtain ⟨j, w⟩ := p
    rw [hgd] at h
    simp only at h ⊢
    unfold yielded
    cases hj : ops.toList[j]? with
    | none =>
      rw [hj] at h; simp only [Option.some.injEq] at h; subst h
      have : ops[j]? = none := by simpa using hj
      simp [this]
    | some g =>
      rw [hj] at h
      simp only at h
      have hj' : ops[j]? = some g := by simpa using hj
      cases hd : g.dst with
      | none => rw [hd] at h; simp only [Option.some.injEq] at h; subst h; simp [hj', hd]
      | some d =>
        rw [hd] at h
        simp only at h
        have r := hg j w g d hgd hj hd
        simp only [hj', hd, Option.bind_some]
        have hnb : ∀ v, (∀ b, v ≠ Value.bool b) → VR ρ v (a.tmps.getD d undef) → ∀ b, a.tmps[d]? ≠ some (.bool b) := by
          intro v hv r b hb
          have hu : a.tmps.getD d undef = .bool b := by simp [Array.getD_eq_getD_getElem?, hb]
          rw [hu] at r
          cases r
          exact hv _ rfl
        cases hT : T.get d with
        | none =>
          rw [hT] at h r
          simp only [Option.some.injEq] at h; subst h
          have hx := hnb undef (by simp [undef]) (by simpa using r)
          generalize a.tmps[d]? = q at hx ⊢
          cases q with
          | none => rfl
          | some u => cases u <;> first | rfl | exact absurd rfl (hx _)
        | some u =>
          rw [hT] at h r
          simp only [Option.getD_some] at r
          cases u <;> simp only [Option.some.injEq] at h
          case bool b0 =>
            subst h
            have hb := r.bool_eq
            have : a.tmps[d]? = some (.bool b0) := by
              cases ht : a.tmps[d]? with
              | none => rw [Array.getD_eq_getD_getElem?, ht] at hb; simp [undef] at hb
              | some u => rw [Array.getD_eq_getD_getElem?, ht] at hb; simp at hb; rw [hb]
            rw [this]
            simp
          all_goals
            subst h
            have hx := hnb _ (by simp) r
            generalize a.tmps[d]? = q at hx ⊢
            cases q with
            | none => rfl
            | some u => cases u <;> first | rfl | exact absurd rfl (hx _)

/-- A region in the text's order. -/
theorem rgn_ok (hP : PG P) (hcall : CallOk P G base callF) (hyield : YieldOk P G base yieldF) (ops : Array Oper) (r : Option Nat) (n : Nat) {Q : Exit → Act → World → Prop} : ∀ (rest : List Oper) (k : Nat) (ρ : Ren) (s s1 : St) (a : Act) (w : World),
    rest = ops.toList.drop k → k + rest.length = ops.size → rgn P G callF yieldF ops.toList rest s = some s1 → SR P G base ρ s a w →
    (∀ a' w' ρ', ρ.le ρ' → SR P G base ρ' s1 a' w' → Below base w w' → Q .normal a' w') → wpOpsIn (fw r) n P ops Q (List.range' k rest.length) a w
  | [], k, ρ, s, s1, a, w, _, _, h, hs, hQ => by
    simp only [rgn, Option.some.injEq] at h
    subst h
    exact hQ a w ρ (Ren.le.refl _) hs (Below.refl _ _)
  | o :: rest, k, ρ, s, s1, a, w, hr, hlen, h, hs, hQ => by
    have hok : ops[k]? = some o := by
      have : (ops.toList.drop k)[0]? = some o := by rw [← hr]; rfl
      rw [List.getElem?_drop] at this
      simpa using this
    have hrest : rest = ops.toList.drop (k + 1) := by
      have : (ops.toList.drop k).tail = rest := by rw [← hr]; rfl
      rw [← this, List.tail_drop]
    simp only [List.length_cons] at hlen
    simp only [List.length_cons, List.range'_succ, wpOpsIn, hok]
    simp only [rgn] at h
    cases hw : wantB ops.toList o s.T with
    | none => rw [hw] at h; cases h
    | some b =>
      rw [hw] at h
      have hwant := wantB_ok (ρ := ρ) (a := a) (fun j w' g d _ _ _ => hs.T.2.2 d) hw
      cases b with
      | true =>
        rw [hwant, if_pos rfl]
        simp only at h
        cases ho : opC P G callF yieldF o s.T s.M with
        | none => rw [ho] at h; cases h
        | some p =>
          obtain ⟨v, M1⟩ := p
          rw [ho] at h
          simp only at h
          refine opC_ok hP hcall hyield hs.M o (fun x _ => evOk_of hs.T hs.M.glob x) ho r n fun v' w' ρ' k1 k2 k3 k4 => ?_
          cases hp : s.put o.dst v M1 with
          | none => rw [hp] at h; cases h
          | some s2 =>
            rw [hp] at h
            simp only at h
            have hs2 : SR P G base ρ' s2 (a.put o.dst v') w' := by
              unfold St.put at hp
              cases hd : o.dst with
              | none =>
                rw [hd] at hp; simp only [Option.some.injEq] at hp; subst hp
                exact ⟨hs.T.mono k1, k3, hs.D.mono k1⟩
              | some d =>
                rw [hd] at hp
                simp only at hp
                cases hb : Nat.blt d s.nt with
                | false => rw [hb] at hp; cases hp
                | true =>
                  rw [hb] at hp; simp only [Option.some.injEq] at hp; subst hp
                  exact ⟨(hs.T.mono k1).set (by simpa using hb) k2, k3, hs.D.mono k1⟩
            exact rgn_ok hP hcall hyield ops r n rest (k + 1) ρ' s2 s1 _ w' hrest (by omega) h hs2 fun a' w2 ρ2 q1 q2 q3 => hQ a' w2 ρ2 (k1.trans q1) q2 (k4.trans q3)
      | false =>
        rw [hwant]
        simp only [Bool.false_eq_true, if_false]
        simp only at h
        refine ⟨fun f _ => fw_fn r f, ?_⟩
        cases hp : s.put o.dst undef s.M with
        | none => rw [hp] at h; cases h
        | some s2 =>
          rw [hp] at h
          simp only at h
          have hs2 : SR P G base ρ s2 (a.put o.dst undef) w := by
            unfold St.put at hp
            cases hd : o.dst with
            | none =>
              rw [hd] at hp; simp only [Option.some.injEq] at hp; subst hp
              exact hs
            | some d =>
              rw [hd] at hp
              simp only at hp
              cases hb : Nat.blt d s.nt with
              | false => rw [hb] at hp; cases hp
              | true =>
                rw [hb] at hp; simp only [Option.some.injEq] at hp; subst hp
                exact ⟨hs.T.set (by simpa using hb) (VR.undef _), hs.M, hs.D⟩
          exact rgn_ok hP hcall hyield ops r n rest (k + 1) ρ s2 s1 _ w hrest (by omega) h hs2 hQ
end
end Go.Abs
