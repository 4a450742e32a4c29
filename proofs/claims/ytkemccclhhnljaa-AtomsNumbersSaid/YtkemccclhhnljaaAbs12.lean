/-
  The abstract machine and the model: functions, rounds, the whole.
-/
import Derived.Test.YtkemccclhhnljaaAbs11
namespace Go.Abs
open Go.RowKit
set_option linter.unusedVariables false
set_option linter.unusedSimpArgs false

section
variable {P : Program} {G base : Nat} {ρ : Ren} {M M1 : Mem} {w w1 : World} {T : Tr Value} {nt : Nat} {tmps : Array Value}

/-! ### Results -/
def resF (tmps : Array Value) (r : ResultVar) : Sem Value := match r with
  | .tmp t => pure (tmps.getD t undef)
  | .cell a t => do loadVar t (← asAddr (tmps.getD a undef))

theorem results_eq (fn : Func) (tmps : Array Value) : results fn tmps = (do let vs ← fn.results.mapM (resF tmps); pure (if h : vs.size = 1 then vs[0] else .tuple vs)) := by
  unfold results
  congr 1

theorem res_ok (hT : TR ρ T nt tmps) (h : HR P G base ρ M w) : ∀ (rs : List ResultVar) (vs : List Value), resultsM P T M rs = some vs → ∃ vs', LR ρ vs vs' ∧ (rs.mapM (resF tmps)).run P w = .ok vs' w
  | [], vs, hr => by simp only [resultsM, Option.some.injEq] at hr; subst hr; exact ⟨[], .nil, by simp [List.mapM_nil]⟩
  | r :: rs, vs, hr => by
    simp only [resultsM] at hr
    split at hr
    rotate_left
    · cases hr
    rename_i v hv
    cases hvs : resultsM P T M rs with
    | none => rw [hvs] at hr; cases hr
    | some us =>
      rw [hvs] at hr
      simp only [Option.some.injEq] at hr
      subst hr
      obtain ⟨us', r1, r2⟩ := res_ok hT h rs us hvs
      have hone : ∃ v', VR ρ v v' ∧ (resF tmps r).run P w = .ok v' w := by
        cases r with
        | tmp t =>
          simp only at hv
          refine ⟨tmps.getD t undef, ?_, by simp [resF]⟩
          have := hT.2.2 t
          cases ht : T.get t with
          | none => rw [ht] at hv this; simp only [Option.some.injEq] at hv; subst hv; exact this
          | some u => rw [ht] at hv this; simp only [Option.some.injEq] at hv; subst hv; exact this
        | cell a t =>
          simp only at hv
          split at hv
          rotate_left
          · cases hv
          rename_i ad ha
          have hx := hT.2.2 a
          rw [ha, Option.getD_some] at hx
          obtain ⟨l, hρ, hsp, he⟩ := hx.ptr_eq
          split at hv
          · rename_i n hagg hsz
            split at hv
            · rename_i cs hc
              simp only [Option.some.injEq] at hv
              subst hv
              obtain ⟨_, _, cs', k1, k2⟩ := loadCells_ok h hρ hc
              exact ⟨.agg cs'.toArray, .agg _ _ (by simpa using k1), by simp [resF, he, asAddr, loadVar, aggB_run hagg, szOf_run hsz, k2]⟩
            · cases hv
          · rename_i hagg
            split at hv
            · rename_i u hc
              simp only [Option.some.injEq] at hv
              subst hv
              obtain ⟨_, _, cs', k1, k2⟩ := cellsAt_ok h hρ hc
              cases k1 with
              | cons _ u' _ _ r1 r2 =>
                cases r2
                have := k2 0 u' rfl
                rw [add_none, Nat.add_zero] at this
                exact ⟨u', r1, by simp [resF, he, asAddr, loadVar, aggB_run hagg, this]⟩
            · cases hv
          · cases hv
      obtain ⟨v', q1, q2⟩ := hone
      exact ⟨v' :: us', .cons _ _ _ _ q1 r1, by simp only [List.mapM_cons, Sem.run_bind, q2, Result.andThen_ok, r2, Sem.run_pure]⟩

/-- the one value of a call -/
def packV : List Value → Value
  | [v] => v
  | vs => .tuple vs.toArray

theorem results_ok (hT : TR ρ T nt tmps) (h : HR P G base ρ M w) {fn : Func} {vs : List Value} (hr : resultsM P T M fn.results.toList = some vs) : ∃ v', VR ρ (packV vs) v' ∧ (results fn tmps).run P w = .ok v' w := by
  obtain ⟨vs', r1, r2⟩ := res_ok hT h _ _ hr
  have hm : (fn.results.mapM (resF tmps)).run P w = .ok vs'.toArray w := by
    rw [Array.mapM_eq_mapM_toList, Sem.run_map, r2]; rfl
  rw [results_eq]
  simp only [Sem.run_bind, hm, Result.andThen_ok, Sem.run_pure]
  cases r1 with
  | nil => exact ⟨_, .tuple _ _ .nil, rfl⟩
  | cons v v' us us' q1 q2 =>
    cases q2 with
    | nil => exact ⟨v', q1, by simp⟩
    | cons v2 v2' us us' q2 q3 =>
      refine ⟨.tuple (v' :: v2' :: us').toArray, .tuple _ _ (.cons _ _ _ _ q1 (.cons _ _ _ _ q2 q3)), ?_⟩
      rw [dif_neg (by simp)]

/-! ### Marks -/
theorem HR.free (h : HR P G base ρ M w) {g : Nat} {o' : Obj} (hu : Upd w w1 g o') (hno : ∀ b o l, M.get b = some o → o ≠ .dead → ρ b = some l → l.g ≠ g) : HR P G base ρ M w1 :=
  ⟨fun b o hb hd => let ⟨l, o', h1, h2, h3⟩ := h.obj b o hb hd; ⟨l, o', h1, by rw [hu.ne _ (hno b o l hb hd h1)]; exact h2, h3⟩, h.inj, h.fresh, fun b l hl => by rw [hu.size]; exact h.lt b l hl, h.base_, h.glob, h.small, by rw [hu.size]; exact h.bsz⟩

theorem leaves_ok {n : Nat} {fn : Func} {R : Ending → World → Prop} : ∀ (D : List Nat) (ds : List Deferred) (M M1 : Mem) (w : World), DR ρ D ds → unmark D M = some M1 → HR P G base ρ M w →
    (∀ w1, HR P G base ρ M1 w1 → Below base w w1 → LeavesInM (fw none) n P fn tmps R [] .returning w1) → LeavesInM (fw none) n P fn tmps R ds .returning w
  | [], ds, M, M1, w, hD, hu, hM, hK => by
    simp only [unmark, Option.some.injEq] at hu
    subst hu
    have : ds = [] := List.length_eq_zero_iff.1 (by rw [hD.1]; rfl)
    subst this
    exact hK w hM (Below.refl _ _)
  | d :: D, ds, M, M1, w, hD, hu, hM, hK => by
    cases ds with
    | nil => have := hD.1; simp at this
    | cons dd ds =>
      obtain ⟨l, hl, h0, hdd⟩ := hD.2 0 d rfl
      simp only [List.getElem?_cons_zero, Option.some.injEq] at hdd
      subst hdd
      have hD' : DR ρ D ds := ⟨by have := hD.1; simpa using this, fun i d' hd' => by
        obtain ⟨l', q1, q2, q3⟩ := hD.2 (i + 1) d' (by simpa using hd')
        exact ⟨l', q1, q2, by simpa using q3⟩⟩
      simp only [unmark] at hu
      split at hu
      rotate_left
      · cases hu
      rename_i hg
      cases hp : M.put d .dead with
      | none => rw [hp] at hu; cases hu
      | some M2 =>
        rw [hp] at hu
        simp only at hu
        obtain ⟨o', q1, q2⟩ := hM.get hg (by simp) hl
        cases o' with
        | deferred calls =>
          cases calls with
          | none => exact q2.elim
          | some cs =>
            cases cs with
            | cons _ _ => exact q2.elim
            | nil =>
              have hupd := upd_set q1 (.deferred none)
              have hpg := put_get hp hM.small
              have hfree : HR P G base ρ M2 { w with heap := w.heap.setIfInBounds l.g (.deferred none) } := (hM.kill hp).free hupd fun b o lb hb hd hlb e => by
                by_cases eb : b = d
                · subst eb; rw [hpg.2.2.2.2.1] at hb; injection hb with hb; exact hd hb.symm
                · rw [hpg.2.2.2.2.2 b eb] at hb
                  exact eb (hM.inj b d o .ddef lb l hb hd hg (by simp) hlb hl e)
              have hbel := hupd.below (hM.base_ d l hpg.2.2.1 hl)
              refine ⟨by simp, .inl ⟨l.g, _, rfl, ?_, leaves_ok D ds M2 M1 _ hD' hu hfree fun w1 k1 k2 => hK w1 k1 (hbel.trans k2)⟩⟩
              simp [Instr.takeDeferred, getObj, setObj, Sem.run, q1]
        | _ => exact q2.elim

/-! ### A function -/
theorem enter_ok {args : List Value} {args' : Array Value} (ra : LR ρ args args'.toList) {m : Nat} (hb : Nat.ble (Nat.max m args.length) 1000000 = true) :
    TR ρ (Tr.ofList 0 args .e) (Nat.max m args.length) (args' ++ Array.replicate (m - args'.size) undef) := by
  have hlen : args.length = args'.size := by have := ra.length; simpa using this
  have hb' : Nat.max m args.length ≤ 1000000 := by simpa using hb
  have hmx : Nat.max m args.length = max m args.length := rfl
  refine ⟨by simp only [Array.size_append, Array.size_replicate]; omega, by omega, fun t => ?_⟩
  rw [Tr.get_ofList args 0 .e t (by omega)]
  by_cases ht : t < args.length
  · rw [if_pos ⟨Nat.zero_le _, by omega⟩, Nat.sub_zero]
    have hv : args[t]? = some (args[t]'ht) := List.getElem?_eq_getElem ht
    obtain ⟨v', e, r⟩ := ra.at_ hv
    have e' : args'[t]? = some v' := by simpa using e
    rw [hv, Option.getD_some, Array.getD_eq_getD_getElem?, Array.getElem?_append_left (by omega), e', Option.getD_some]
    exact r
  · rw [if_neg (by omega)]
    have : (args' ++ Array.replicate (m - args'.size) undef).getD t undef = undef := by
      rw [Array.getD_eq_getD_getElem?, Array.getElem?_append_right (by omega), Array.getElem?_replicate]
      split <;> rfl
    rw [this]
    exact VR.undef _

theorem call_of (hP : PG P) {ex : Option Nat → Code → St → Option (Ex × St)} (hex : ExOk P G base ex) : CallOk P G base (callFn P (ex none)) := by
  intro f args M v M1 h
  unfold callFn at h
  cases hf : P.funcs[f]? with
  | none => rw [hf] at h; cases h
  | some fn =>
    rw [hf] at h
    simp only at h
    cases hb : fn.body with
    | none => rw [hb] at h; cases h
    | some c =>
      rw [hb] at h
      simp only at h
      refine ⟨⟨fn, c, rfl, hb⟩, fun ρ args' w r n ra hM => ?_⟩
      cases hble : Nat.ble (Nat.max fn.ntmps args.length) 1000000 with
      | false => rw [hble] at h; cases h
      | true =>
        rw [hble] at h
        simp only at h
        have hT := enter_ok ra hble
        have hend : ∃ e s, ex none c ⟨Tr.ofList 0 args .e, Nat.max fn.ntmps args.length, M, []⟩ = some (e, s) ∧ (e = .norm ∨ e = .ret) ∧ fnEnd P fn s = some (v, M1) := by
          split at h
          · rename_i s hx; exact ⟨_, s, hx, .inl rfl, h⟩
          · rename_i s hx; exact ⟨_, s, hx, .inr rfl, h⟩
          · cases h
        obtain ⟨e, s, hx, he, hfe⟩ := hend
        have hcalls : CallsIn (fw none) n P f args' w (CallPost P G base ρ w v M1) := by
          refine callsIn_of_wp_marks hf hb trivial (hex none c _ e s hx (hP.code f fn c hf hb) ρ _ w none n _ ⟨hT, hM, rfl, fun i d hd => by simp at hd⟩ rfl fun a' w' ρ' h1 h2 h3 => ?_)
          have hleave : LeavesInM (fw none) n P fn a'.tmps (CallPost P G base ρ w v M1) a'.defers .returning w' := by
            unfold fnEnd at hfe
            cases hu : unmark s.D s.M with
            | none => rw [hu] at hfe; cases hfe
            | some M2 =>
              rw [hu] at hfe
              simp only at hfe
              cases hrs : resultsM P s.T M2 fn.results.toList with
              | none => rw [hrs] at hfe; cases hfe
              | some vs =>
                rw [hrs] at hfe
                have hv : v = packV vs ∧ M1 = M2 := by
                  cases vs with
                  | nil => simp only [Option.some.injEq, Prod.mk.injEq] at hfe; exact ⟨hfe.1.symm, hfe.2.symm⟩
                  | cons v1 vs => cases vs with
                    | nil => simp only [Option.some.injEq, Prod.mk.injEq] at hfe; exact ⟨hfe.1.symm, hfe.2.symm⟩
                    | cons v2 vs => simp only [Option.some.injEq, Prod.mk.injEq] at hfe; exact ⟨hfe.1.symm, hfe.2.symm⟩
                obtain ⟨rfl, rfl⟩ := hv
                refine leaves_ok s.D a'.defers s.M M1 w' h2.D hu h2.M fun w1 k1 k2 => ?_
                obtain ⟨v', q1, q2⟩ := results_ok h2.T k1 hrs
                exact ⟨v', q2, v', ρ', rfl, h1, q1, k1, h3.trans k2⟩
          rcases he with rfl | rfl
          · exact hleave
          · exact hleave
        exact hcalls

/-! ### Loops over functions -/
theorem setLoop (h : HR P G base ρ M w) {l : Nat} {loc : Loc} (hl : ρ l = some loc) {st : LoopState} {p : Option Code} {fn : FuncId} {ps : List Tmp} {as bd : Code} {d : Nat} (hg : M.get l = some (.loop st p fn T nt ps as bd d)) :
    ∃ r : Loop, w.heap[loc.g]? = some (.loop r) ∧ r.state = st ∧ r.pending = p ∧ r.params.toList = ps ∧ r.assign = as ∧ r.body = bd ∧ TR ρ T nt r.tmps ∧ codeOk P as = true ∧ codeOk P bd = true ∧ (∃ ld, ρ d = some ld ∧ ld.off = 0 ∧ r.defers = ld.g) ∧
      ∀ st' p' fn' M2, M.put l (.loop st' p' fn' T nt ps as bd d) = some M2 → HR P G base ρ M2 { w with heap := w.heap.setIfInBounds loc.g (.loop { r with state := st', pending := p' }) } ∧ Below base w { w with heap := w.heap.setIfInBounds loc.g (.loop { r with state := st', pending := p' }) } := by
  obtain ⟨o', h1, h2⟩ := h.get hg (by simp) hl
  cases o' with
  | loop r =>
    obtain ⟨e0, e1, e2, e3, e4, e5, e6, e7, e8, e9⟩ := h2
    refine ⟨r, h1, e1, e2, e3, e4, e5, e6, e8, e9, e7, fun st' p' fn' M2 hp => ?_⟩
    exact h.upd hp hg (by simp) hl (upd_set h1 _) ⟨e0, rfl, rfl, e3, e4, e5, e6, e7, e8, e9⟩
  | _ => exact h2.elim

theorem params_ok {ρ : Ren} {nt : Nat} : ∀ (ps : List Tmp) (vs : List Value) (T T1 : Tr Value) (tmps : Array Value) (vs' : List Value), paramsT ps vs nt T = some T1 → TR ρ T nt tmps → LR ρ vs vs' →
    ps.length = vs.length ∧ TR ρ T1 nt ((ps.zip vs').foldl (fun tmps (x : Tmp × Value) => tmps.setIfInBounds x.1 x.2) tmps)
  | [], [], T, T1, tmps, vs', h, hT, r => by
    simp only [paramsT, Option.some.injEq] at h
    subst h
    exact ⟨rfl, by simpa using hT⟩
  | t :: ps, v :: vs, T, T1, tmps, vs', h, hT, r => by
    simp only [paramsT] at h
    cases hb : Nat.blt t nt with
    | false => rw [hb] at h; cases h
    | true =>
      rw [hb] at h
      simp only at h
      cases r with
      | cons _ v' _ us' r1 r2 =>
        have := params_ok ps vs _ T1 _ us' h (hT.set (by simpa using hb) r1) r2
        exact ⟨by simp [this.1], by simpa using this.2⟩
  | [], v :: vs, _, _, _, _, h, _, _ => by cases h
  | t :: ps, [], _, _, _, _, h, _, _ => by cases h

theorem yield_of {ex : Option Nat → Code → St → Option (Ex × St)} (hex : ExOk P G base ex) : YieldOk P G base (yieldFn ex) := by
  intro l args M v M1 h ρ loc args' w hl h0 ra hM
  unfold yieldFn at h
  split at h
  rotate_left
  · cases h
  rename_i st p fn T nt ps as bd d hg
  obtain ⟨r, e1, e2, e3, e4, e5, e6, e7, e8, e9, _, _⟩ := setLoop hM hl hg
  cases hpar : paramsT ps args nt T with
  | none => rw [hpar] at h; cases h
  | some T1 =>
    rw [hpar] at h
    simp only at h
    obtain ⟨hpl, hT1⟩ := params_ok ps args T T1 r.tmps args'.toList hpar e7 ra
    have hsz : args'.size = r.params.size := by
      have := ra.length
      have h4 : r.params.toList.length = ps.length := by rw [e4]
      simp at this h4
      omega
    have hfold : (r.params.zip args').foldl (fun tmps (x : Tmp × Value) => tmps.setIfInBounds x.1 x.2) r.tmps = (ps.zip args'.toList).foldl (fun tmps (x : Tmp × Value) => tmps.setIfInBounds x.1 x.2) r.tmps := by
      rw [← e4, ← Array.foldl_toList, Array.toList_zip]
    refine ⟨r.fn, (ps.zip args'.toList).foldl (fun tmps (x : Tmp × Value) => tmps.setIfInBounds x.1 x.2) r.tmps, as, bd, ?_, fun ro n => ?_⟩
    · subst e5
      subst e6
      rw [← hfold]
      simp [Instr.yield, Instr.getLoop, getObj, Sem.run, e1, hsz]
    · refine roundIn_of_wpIn (F := fw ro) trivial ?_
      show as.wpIn (fw (some loc.g)) n P _ _ w
      split at h
      rotate_left
      · cases h
      rename_i s hx
      refine hex (some l) as _ .norm s hx e8 ρ _ w (some loc.g) n _ ⟨hT1, hM, rfl, fun i d hd => by simp at hd⟩ ⟨loc, hl, h0, rfl⟩ fun a1 w1 ρ1 h1 h2 h3 => ?_
      split at h
      rotate_left
      · cases h
      rename_i p2 fn2 T2 nt2 ps2 as2 bd2 d2 hg2
      obtain ⟨r2, f1, f2, f3, f4, f5, f6, f7, f8, f9, _, fset⟩ := setLoop h2.M (h1 _ _ hl) hg2
      cases hp2 : s.M.put l (.loop .busy p2 fn2 T2 nt2 ps2 as2 bd2 d2) with
      | none => rw [hp2] at h; cases h
      | some M2 =>
        rw [hp2] at h
        simp only at h
        obtain ⟨k1, k2⟩ := fset _ _ _ _ hp2
        have hbegin : (Instr.beginRound loc.g).run P w1 = .ok () { w1 with heap := w1.heap.setIfInBounds loc.g (.loop { r2 with state := .busy, pending := p2 }) } := by
          subst f3
          simp [Instr.beginRound, Instr.getLoop, getObj, setObj, Sem.run, f1, f2]
        refine ⟨_, hbegin, ?_⟩
        · split at h
          rotate_left
          · cases h
          rename_i e s3 hx3
          show bd.wpIn (fw (some loc.g)) n P _ _ _
          refine hex (some l) bd _ e s3 hx3 e9 ρ1 a1 _ (some loc.g) n _ ⟨h2.T, k1, h2.D⟩ ⟨loc, h1 _ _ hl, h0, rfl⟩ fun a3 w3 ρ3 g1 g2 g3 => ?_
          split at h
          rotate_left
          · cases h
          rename_i st4 p4 fn4 T4 nt4 ps4 as4 bd4 d4 hg4
          obtain ⟨r4, q1, q2, q3, q4, q5, q6, q7, q8, q9, _, qset⟩ := setLoop g2.M (g1 _ _ (h1 _ _ hl)) hg4
          have hend : ∀ (jump : Option Code), (Instr.endRound loc.g jump).run P w3 = .ok (.bool jump.isNone) { w3 with heap := w3.heap.setIfInBounds loc.g (.loop { r4 with state := if jump.isNone then .ready else .done, pending := jump }) } := fun jump => by
            simp [Instr.endRound, Instr.getLoop, getObj, setObj, Sem.run, q1]
          cases e with
          | norm =>
            simp only at h
            cases hp4 : s3.M.put l (.loop .ready none fn4 T4 nt4 ps4 as4 bd4 d4) with
            | none => rw [hp4] at h; cases h
            | some M5 =>
              rw [hp4] at h
              simp only [Option.some.injEq, Prod.mk.injEq] at h
              obtain ⟨rfl, rfl⟩ := h
              obtain ⟨m1, m2⟩ := qset _ _ _ _ hp4
              exact ⟨_, _, hend none, _, ρ3, rfl, h1.trans g1, .bool _, m1, (h3.trans k2).trans (g3.trans m2)⟩
          | exit i =>
            simp only at h
            cases hp4 : s3.M.put l (.loop .done (Ex.exit i).code fn4 T4 nt4 ps4 as4 bd4 d4) with
            | none => rw [hp4] at h; cases h
            | some M5 =>
              rw [hp4] at h
              simp only [Option.some.injEq, Prod.mk.injEq] at h
              obtain ⟨rfl, rfl⟩ := h
              obtain ⟨m1, m2⟩ := qset _ _ _ _ hp4
              exact ⟨_, _, hend (some (.exit i)), _, ρ3, rfl, h1.trans g1, .bool _, m1, (h3.trans k2).trans (g3.trans m2)⟩
          | goto i =>
            simp only at h
            cases hp4 : s3.M.put l (.loop .done (Ex.goto i).code fn4 T4 nt4 ps4 as4 bd4 d4) with
            | none => rw [hp4] at h; cases h
            | some M5 =>
              rw [hp4] at h
              simp only [Option.some.injEq, Prod.mk.injEq] at h
              obtain ⟨rfl, rfl⟩ := h
              obtain ⟨m1, m2⟩ := qset _ _ _ _ hp4
              exact ⟨_, _, hend (some (.goto i)), _, ρ3, rfl, h1.trans g1, .bool _, m1, (h3.trans k2).trans (g3.trans m2)⟩
          | ret =>
            simp only at h
            cases hp4 : s3.M.put l (.loop .done Ex.ret.code fn4 T4 nt4 ps4 as4 bd4 d4) with
            | none => rw [hp4] at h; cases h
            | some M5 =>
              rw [hp4] at h
              simp only [Option.some.injEq, Prod.mk.injEq] at h
              obtain ⟨rfl, rfl⟩ := h
              obtain ⟨m1, m2⟩ := qset _ _ _ _ hp4
              exact ⟨_, _, hend (some .ret), _, ρ3, rfl, h1.trans g1, .bool _, m1, (h3.trans k2).trans (g3.trans m2)⟩
end
end Go.Abs
