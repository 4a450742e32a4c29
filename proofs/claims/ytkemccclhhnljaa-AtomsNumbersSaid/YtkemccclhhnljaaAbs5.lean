/-
  The abstract machine and the model, operation by operation: maps, append, copy, conversions, the small builtins.
-/
import Derived.Test.YtkemccclhhnljaaAbs4
import Derived.Laws.BytesString
import Derived.Laws.BytesArg
namespace Go.Abs
open Go.RowKit

theorem eval0_bind {α β : Type} (P : Program) (s : Sem α) (f : α → Sem β) : eval0 P (s >>= f) = (eval0 P s).bind fun a => eval0 P (f a) := by
  induction s with
  | pure a => rfl
  | program k ih => exact ih P
  | _ => rfl

theorem upd_set {w : World} {g : Nat} {o0 : Obj} (h : w.heap[g]? = some o0) (o : Obj) : Upd w { w with heap := w.heap.setIfInBounds g o } g o := by
  have hlt : g < w.heap.size := (Array.getElem?_eq_some_iff.1 h).1
  exact ⟨rfl, rfl, rfl, by simp, by simp [hlt], fun i hi => by simp [Array.getElem?_setIfInBounds_ne (Ne.symm hi)]⟩

theorem getMap {P : Program} {w : World} {g : Nat} {es : Array MapEntry} {clk : Nat} (h : w.heap[g]? = some (.map es clk)) : (getObj g).run P w = .ok (.map es clk) w := by simp [getObj, Sem.run, h]
theorem setMap {P : Program} {w : World} {g : Nat} {es : Array MapEntry} {clk : Nat} (o : Obj) (h : w.heap[g]? = some (.map es clk)) : (setObj g o).run P w = .ok () { w with heap := w.heap.setIfInBounds g o } := by simp [setObj, Sem.run, h]

section
variable {P : Program} {G base : Nat} {ρ : Ren} {M M1 : Mem} {w w1 : World}

/-! ### maps -/
inductive FR (ρ : Ren) : Option (Nat × Value) → Option (Nat × Value) → Prop where
  | none : FR ρ none none
  | some (j : Nat) (v v' : Value) (h : VR ρ v v') : FR ρ (some (j, v)) (some (j, v'))

theorem ER.length {es es' : List MapEntry} (h : ER ρ es es') : es.length = es'.length := by
  induction h with
  | nil => rfl
  | cons e e' es es' _ _ ih => simp [ih]
theorem ER.at_ {es es' : List MapEntry} (h : ER ρ es es') : ∀ {i : Nat} {e : MapEntry}, es[i]? = some e → ∃ e', es'[i]? = some e' ∧ MR ρ e e' := by
  induction h with
  | nil => intro i e he; simp at he
  | cons e e' es es' h _ ih =>
    intro i x hx
    cases i with
    | zero => simp at hx; subst hx; exact ⟨e', rfl, h⟩
    | succ i => simp at hx; obtain ⟨y, h1, h2⟩ := ih hx; exact ⟨y, by simpa using h1, h2⟩
theorem ER.append {es es' fs fs' : List MapEntry} (h : ER ρ es es') (k : ER ρ fs fs') : ER ρ (es ++ fs) (es' ++ fs') := by
  induction h with
  | nil => exact k
  | cons e e' es es' h _ ih => exact .cons _ _ _ _ h ih
theorem ER.setKV {es es' : List MapEntry} (h : ER ρ es es') (i : Nat) {k v k' v' : Value} (hk : VR ρ k k') (hv : VR ρ v v') : ER ρ (setKV es i k v) (es'.modify i fun e => { e with key := k', val := v' }) := by
  induction h generalizing i with
  | nil => simp [Abs.setKV]; exact .nil
  | cons e e' es es' h hh ih =>
    cases i with
    | zero => simp [Abs.setKV]; exact .cons _ _ _ _ ⟨hk, hv, h.born⟩ hh
    | succ i => simp [Abs.setKV]; exact .cons _ _ _ _ h (ih i)
theorem ER.erase {es es' : List MapEntry} (h : ER ρ es es') (i : Nat) : ER ρ (es.eraseIdx i) (es'.eraseIdx i) := by
  induction h generalizing i with
  | nil => exact .nil
  | cons e e' es es' h hh ih =>
    cases i with
    | zero => exact hh
    | succ i => exact .cons _ _ _ _ h (ih i)

theorem findNow_ok {kind : TypeDesc} {k : Value} {es es' : List MapEntry} (h : ER ρ es es') (hf : mapKeysFlat es = true) : ∀ (i : Nat),
    (Instr.findNow kind k es i = none → Instr.findNow kind k es' i = none) ∧ ∀ r, Instr.findNow kind k es i = some r → ∃ r', Instr.findNow kind k es' i = some r' ∧ FR ρ r r' := by
  induction h with
  | nil => intro i; exact ⟨fun h => by simp [Instr.findNow] at h, fun r hr => by simp [Instr.findNow] at hr; subst hr; exact ⟨_, rfl, .none⟩⟩
  | cons e e' es es' h hh ih =>
    intro i
    simp only [mapKeysFlat, List.all_cons, Bool.and_eq_true] at hf
    have hk := isFlat_eq hf.1 h.key
    simp only [Instr.findNow, hk]
    cases Instr.sameNow kind k e.key with
    | none => exact ⟨fun _ => rfl, fun r hr => by cases hr⟩
    | some b =>
      cases b with
      | true => exact ⟨(fun h => by cases h), fun r hr => by injection hr with hr; subst hr; exact ⟨_, rfl, .some _ _ _ h.val⟩⟩
      | false => exact ih hf.2 (i + 1)
theorem findAsking_ok {kt : TypeId} {k : Value} {es es' : List MapEntry} (h : ER ρ es es') (hf : mapKeysFlat es = true) : ∀ (i : Nat) (r : Option (Nat × Value)), eval0 P (Instr.findAsking kt k es i) = some r →
    ∃ r', FR ρ r r' ∧ ∀ w, (Instr.findAsking kt k es' i).run P w = .ok r' w := by
  induction h with
  | nil => intro i r hr; simp only [Instr.findAsking] at hr ⊢; injection hr with hr; subst hr; exact ⟨none, .none, fun w => rfl⟩
  | cons e e' es es' h hh ih =>
    intro i r hr
    simp only [mapKeysFlat, List.all_cons, Bool.and_eq_true] at hf
    have hk := isFlat_eq hf.1 h.key
    simp only [Instr.findAsking, hk] at hr ⊢
    rw [eval0_bind] at hr
    cases hb : eval0 P (Op.equal kt k e.key) with
    | none => rw [hb] at hr; cases hr
    | some b =>
      rw [hb] at hr
      simp only [Option.bind_some] at hr
      cases b with
      | true =>
        simp only [if_true] at hr
        injection hr with hr
        subst hr
        exact ⟨_, .some _ _ _ h.val, fun w => by simp [eval0_run hb]⟩
      | false =>
        simp only [Bool.false_eq_true, if_false] at hr
        obtain ⟨r', h1, h2⟩ := ih hf.2 (i + 1) r hr
        exact ⟨r', h1, fun w => by simp [eval0_run hb, h2]⟩
theorem findKey_ok {kt : TypeId} {k : Value} {es es' : List MapEntry} (h : ER ρ es es') (hf : mapKeysFlat es = true) {r : Option (Nat × Value)} (hr : eval0 P (Instr.findKey kt k es) = some r) :
    ∃ r', FR ρ r r' ∧ ∀ w, (Instr.findKey kt k es').run P w = .ok r' w := by
  unfold Instr.findKey at hr ⊢
  rw [eval0_bind] at hr
  cases hu : eval0 P (underlying kt) with
  | none => rw [hu] at hr; cases hr
  | some d =>
    rw [hu] at hr
    simp only [Option.bind_some] at hr
    obtain ⟨h1, h2⟩ := findNow_ok (kind := d) (k := k) h hf 0
    cases hn : Instr.findNow d k es 0 with
    | none =>
      rw [hn] at hr
      simp only at hr
      obtain ⟨r', q1, q2⟩ := findAsking_ok h hf 0 r hr
      exact ⟨r', q1, fun w => by simp [eval0_run hu, h1 hn, q2]⟩
    | some r1 =>
      rw [hn] at hr
      simp only at hr
      injection hr with hr
      subst hr
      obtain ⟨r', q1, q2⟩ := h2 r1 hn
      exact ⟨r', q2, fun w => by simp [eval0_run hu, q1]⟩

/-- checkKey, then findKey -/
theorem checked_find {kt : TypeId} {k : Value} {b : Bool} {es es' : List MapEntry} (h : ER ρ es es') (hf : mapKeysFlat es = true) {r : Option (Nat × Value)}
    (hr : eval0 P (do Instr.checkKey b 10000 kt k; Instr.findKey kt k es) = some r) : (∀ w, (Instr.checkKey b 10000 kt k).run P w = .ok () w) ∧ ∃ r', FR ρ r r' ∧ ∀ w, (Instr.findKey kt k es').run P w = .ok r' w := by
  rw [eval0_bind] at hr
  cases hc : eval0 P (Instr.checkKey b 10000 kt k) with
  | none => rw [hc] at hr; cases hr
  | some u =>
    rw [hc] at hr
    exact ⟨eval0_run hc, findKey_ok h hf hr⟩

theorem ER.empty {es : List MapEntry} {es' : Array MapEntry} (h : ER ρ es es'.toList) : es'.isEmpty = es.isEmpty := by
  obtain ⟨l⟩ := es'
  cases h with
  | nil => rfl
  | cons => rfl

theorem lookIn_ok {kt et : TypeId} {k k' : Value} {ok : Bool} {v : Value} {es : List MapEntry} {es' : Array MapEntry} (he : ER ρ es es'.toList) (hv : lookIn P kt et k ok es = some v) (rk : VR ρ k k') :
    ∃ v', VR ρ v v' ∧ ∀ w, (do
      Instr.checkKey es'.isEmpty 10000 kt k'
      let (v, ok') ← match ← Instr.findKey kt k' es'.toList with
        | some (_, v) => pure (v, true)
        | none => pure (← zeroValue et, false)
      pure (if ok then Value.tuple #[v, .bool ok'] else v) : Sem Value).run P w = .ok v' w := by
  unfold lookIn at hv
  cases hf : (isFlat k && mapKeysFlat es) with
  | false => rw [hf] at hv; cases hv
  | true =>
    rw [hf] at hv
    simp only at hv
    simp only [Bool.and_eq_true] at hf
    have hkk := isFlat_eq hf.1 rk
    subst hkk
    have hemp := he.empty
    cases hr : eval0 P (do Instr.checkKey es.isEmpty 10000 kt k'; Instr.findKey kt k' es) with
    | none => rw [hr] at hv; cases hv
    | some r =>
      obtain ⟨c1, r', c2, c3⟩ := checked_find he hf.2 hr
      rw [hr] at hv
      cases c2 with
      | none =>
        simp only at hv
        cases hz : zeroOf P et with
        | none => rw [hz] at hv; cases hv
        | some z =>
          rw [hz] at hv
          simp only at hv
          cases hzf : isFlat z with
          | false => rw [hzf] at hv; cases hv
          | true =>
            rw [hzf] at hv
            cases ok with
            | true =>
              simp only [Option.some.injEq] at hv
              subst hv
              exact ⟨.tuple #[z, .bool false], .tuple _ _ (.cons _ _ _ _ (isFlat_refl hzf) (.cons _ _ _ _ (.bool _) .nil)), fun w => by simp [hemp, c1, c3, zeroOf_run hz]⟩
            | false =>
              simp only [Option.some.injEq] at hv
              subst hv
              exact ⟨z, isFlat_refl hzf, fun w => by simp [hemp, c1, c3, zeroOf_run hz]⟩
      | some j u u' hu' =>
        cases ok with
        | true =>
          simp only [Option.some.injEq] at hv
          subst hv
          exact ⟨.tuple #[u', .bool true], .tuple _ _ (.cons _ _ _ _ hu' (.cons _ _ _ _ (.bool _) .nil)), fun w => by simp [hemp, c1, c3]⟩
        | false =>
          simp only [Option.some.injEq] at hv
          subst hv
          exact ⟨u', hu', fun w => by simp [hemp, c1, c3]⟩

theorem lookupM_ok (h : HR P G base ρ M w) {t : TypeId} {x x' k k' : Value} {ok : Bool} {v : Value} (hs : lookupM P t x k ok M = some v) (rx : VR ρ x x') (rk : VR ρ k k') :
    ∃ v', VR ρ v v' ∧ (Instr.lookup t x' k' ok).run P w = .ok v' w := by
  unfold lookupM at hs
  cases hu : P.underlying t with
  | none => rw [hu] at hs; cases hs
  | some d =>
    rw [hu] at hs
    cases d with
    | map kt et =>
      cases rx <;> simp only at hs <;> try cases hs
      case map0 =>
        obtain ⟨v', r, k2⟩ := lookIn_ok (es' := #[]) .nil hs rk
        refine ⟨v', r, ?_⟩
        rw [← k2 w]
        simp [Instr.lookup, run_underlying hu]
        rfl
      case map r l hρ h0 =>
        cases hg : M.get r with
        | none => simp [hg] at hs
        | some o =>
          cases o with
          | map es clk =>
            simp only [hg] at hs
            obtain ⟨o', h1, h2⟩ := h.get hg (by simp) hρ
            cases o' with
            | map es' clk' =>
              obtain ⟨v', r, k2⟩ := lookIn_ok h2.2.2 hs rk
              refine ⟨v', r, ?_⟩
              rw [← k2 w]
              simp [Instr.lookup, run_underlying hu, getMap h1]
              rfl
            | _ => exact h2.elim
          | _ => simp [hg] at hs
    | _ => simp at hs

theorem updateM_ok (h : HR P G base ρ M w) {t : TypeId} {x x' k k' v v' : Value} (hs : updateM P t x k v M = some M1) (rx : VR ρ x x') (rk : VR ρ k k') (rv : VR ρ v v') :
    ∃ w1, (Instr.mapUpdate t x' k' v').run P w = .ok () w1 ∧ HR P G base ρ M1 w1 ∧ Below base w w1 := by
  unfold updateM at hs
  cases hu : P.underlying t with
  | none => rw [hu] at hs; cases hs
  | some d =>
    rw [hu] at hs
    cases d with
    | map kt et =>
      cases rx <;> simp only at hs <;> try cases hs
      rename_i r l hρ h0
      cases hg : M.get r with
      | none => rw [hg] at hs; cases hs
      | some o =>
        cases o with
        | map es clk =>
          simp only [hg] at hs
          obtain ⟨o', h1, h2⟩ := h.get hg (by simp) hρ
          cases o' with
          | map es' clk' =>
            obtain ⟨h0', rfl, he⟩ := h2
            cases hf : (isFlat k && mapKeysFlat es) with
            | false => rw [hf] at hs; cases hs
            | true =>
              rw [hf] at hs
              simp only at hs
              simp only [Bool.and_eq_true] at hf
              have hkk := isFlat_eq hf.1 rk
              subst hkk
              cases hr : eval0 P (do Instr.checkKey false 10000 kt k'; Instr.findKey kt k' es) with
              | none => rw [hr] at hs; cases hs
              | some q =>
                obtain ⟨c1, r', c2, c3⟩ := checked_find he hf.2 hr
                rw [hr] at hs
                cases c2 with
                | none =>
                  simp only at hs
                  have ho : OR P ρ l (.map (es ++ [{ key := k', val := v, born := clk' }]) (clk' + 1)) (.map (es'.push { key := k', val := v', born := clk' }) (clk' + 1)) := by
                    refine ⟨h0, rfl, ?_⟩
                    rw [Array.toList_push]
                    exact he.append (.cons _ _ _ _ ⟨isFlat_refl hf.1, rv, rfl⟩ .nil)
                  obtain ⟨k1, k2⟩ := h.upd hs hg (by simp) hρ (upd_set h1 _) ho
                  refine ⟨_, ?_, k1, k2⟩
                  simp [Instr.mapUpdate, run_underlying hu, getMap h1, c1, c3, setMap _ h1]
                | some j u u' hu' =>
                  simp only at hs
                  cases hj : es[j]? with
                  | none => rw [hj] at hs; cases hs
                  | some e =>
                    rw [hj] at hs
                    simp only at hs
                    cases hb : Instr.sameBits 10000 e.key k' with
                    | false => rw [hb] at hs; cases hs
                    | true =>
                      rw [hb] at hs
                      simp only at hs
                      obtain ⟨e', e1, e2⟩ := he.at_ hj
                      have hflat : isFlat e.key = true := by
                        have := hf.2
                        simp only [mapKeysFlat, List.all_eq_true] at this
                        exact this e (List.mem_of_getElem? hj)
                      have hke := isFlat_eq hflat e2.key
                      have ho : OR P ρ l (.map (setKV es j k' v) clk') (.map (es'.modify j fun e => { e with key := k', val := v' }) clk') := by
                        refine ⟨h0, rfl, ?_⟩
                        rw [Array.toList_modify]
                        exact he.setKV j (isFlat_refl hf.1) rv
                      obtain ⟨k1, k2⟩ := h.upd hs hg (by simp) hρ (upd_set h1 _) ho
                      refine ⟨_, ?_, k1, k2⟩
                      have e1' : es'[j]? = some e' := by simpa using e1
                      simp [Instr.mapUpdate, run_underlying hu, getMap h1, c1, c3, Instr.keyThatStays, e1', hke, hb, setMap _ h1]
          | _ => exact h2.elim
        | _ => simp [hg] at hs
    | _ => simp at hs

theorem deleteM_ok (h : HR P G base ρ M w) {t : TypeId} {x x' k k' : Value} (hs : deleteM P t x k M = some M1) (rx : VR ρ x x') (rk : VR ρ k k') (ts : Array TypeId) (ht : ts[0]? = some t) (ty : TypeId) :
    ∃ w1, (Builtin.delete_ ts ty #[x', k']).run P w = .ok (.tuple #[]) w1 ∧ HR P G base ρ M1 w1 ∧ Below base w w1 := by
  unfold deleteM at hs
  cases hu : P.underlying t with
  | none => rw [hu] at hs; cases hs
  | some d =>
    rw [hu] at hs
    cases d with
    | map kt et =>
      cases rx <;> simp only at hs <;> try cases hs
      rename_i r l hρ h0
      cases hg : M.get r with
      | none => rw [hg] at hs; cases hs
      | some o =>
        cases o with
        | map es clk =>
          simp only [hg] at hs
          obtain ⟨o', h1, h2⟩ := h.get hg (by simp) hρ
          cases o' with
          | map es' clk' =>
            obtain ⟨h0', rfl, he⟩ := h2
            cases hf : (isFlat k && mapKeysFlat es) with
            | false => rw [hf] at hs; cases hs
            | true =>
              rw [hf] at hs
              simp only at hs
              simp only [Bool.and_eq_true] at hf
              have hkk := isFlat_eq hf.1 rk
              subst hkk
              have hemp := he.empty
              cases hr : eval0 P (do Instr.checkKey es.isEmpty 10000 kt k'; Instr.findKey kt k' es) with
              | none => rw [hr] at hs; cases hs
              | some q =>
                obtain ⟨c1, r', c2, c3⟩ := checked_find he hf.2 hr
                rw [hr] at hs
                cases c2 with
                | none =>
                  simp only at hs
                  obtain ⟨k1, k2⟩ := h.upd hs hg (by simp) hρ (upd_set h1 _) (show OR P ρ l (.map es clk') (.map es' clk') from ⟨h0, rfl, he⟩)
                  refine ⟨_, ?_, k1, k2⟩
                  simp [Builtin.delete_, ht, run_underlying hu, getMap h1, hemp, c1, c3, setMap _ h1]
                | some j u u' hu' =>
                  simp only at hs
                  have ho : OR P ρ l (.map (es.eraseIdx j) clk') (.map (es'.eraseIdxIfInBounds j) clk') := by
                    refine ⟨h0, rfl, ?_⟩
                    rw [Array.toList_eraseIdxIfInBounds]
                    exact he.erase j
                  obtain ⟨k1, k2⟩ := h.upd hs hg (by simp) hρ (upd_set h1 _) ho
                  refine ⟨_, ?_, k1, k2⟩
                  simp [Builtin.delete_, ht, run_underlying hu, getMap h1, hemp, c1, c3, setMap _ h1]
          | _ => exact h2.elim
        | _ => simp [hg] at hs
    | _ => simp at hs
end
end Go.Abs
