/-
  The abstract machine and the model: a region whose order is drawn.
-/
import Derived.Test.YtkemccclhhnljaaAbs9
namespace Go.Abs
open Go.RowKit
set_option linter.unusedVariables false
set_option linter.unusedSimpArgs false

/-! ### The operations by their kind -/
section
variable {P : Program} {G : Nat} {T : Tr Value} {M M1 : Mem} {callF : CallF} {yieldF : YieldF}

theorem conv_read {s d : TypeId} {x v : Value} (hd : ∀ e, P.underlying d ≠ some (.slice e)) (h : conv P s d x M = some (v, M1)) : M1 = M := by
  unfold conv at h
  split at h
  · simp at h; exact h.2.symm
  · simp at h; exact h.2.symm
  · simp at h; exact h.2.symm
  · rename_i e s' _ hd'
    exact absurd hd' (hd e)
  · split at h
    · split at h
      · simp at h; exact h.2.symm
      · split at h
        · split at h
          · simp at h; exact h.2.symm
          · cases h
        · cases h
    · cases h
  · cases h

/-- A pure operation: it gives the same on every heap. -/
theorem kind0 {o : Oper} (hk : kindOp P o = 0) {v : Value} (h : opC P G callF yieldF o T M = some (v, M1)) : M1 = M ∧ ∀ M', opC P G callF yieldF o T M' = some (v, M') := by
  obtain ⟨dst, op, type, pos, after, guard⟩ := o
  cases op <;> simp only [kindOp] at hk <;> try (cases hk; done)
  case convert s d x => split at hk <;> cases hk
  case call c =>
    obtain ⟨callee, args, ats⟩ := c
    cases callee <;> simp only at hk <;> try (cases hk; done)
    rename_i b
    simp only [opC, opM] at h ⊢
    cases hx : evs G T args.toList with
    | none => rw [hx] at h; cases h
    | some us =>
      rw [hx] at h
      simp only at h ⊢
      cases b <;> simp only at hk <;> try (cases hk; done)
      all_goals
        simp only [builtinM] at h ⊢
        split at h
        · split at h
          · split at h
            · simp only [Option.some.injEq, Prod.mk.injEq] at h
              obtain ⟨rfl, rfl⟩ := h
              refine ⟨rfl, fun M' => ?_⟩
              simp [*]
            · cases h
          · cases h
        · cases h
  case makeFunc fn xs ys =>
    cases fn <;> simp only [opC, opM] at h ⊢ <;> try (cases h; done)
    split at h
    · simp only [Option.some.injEq, Prod.mk.injEq] at h
      obtain ⟨rfl, rfl⟩ := h
      exact ⟨rfl, fun M' => by simp [*]⟩
    · cases h
  all_goals
    simp only [opC, opM] at h ⊢
    repeat' (split at h)
    all_goals first
      | (cases h; done)
      | (simp only [Option.some.injEq, Prod.mk.injEq] at h
         obtain ⟨rfl, rfl⟩ := h
         exact ⟨rfl, fun M' => by simp [*]⟩)

/-- An operation that reads leaves the heap. -/
theorem kind1 {o : Oper} (hk : kindOp P o = 1) {v : Value} (h : opC P G callF yieldF o T M = some (v, M1)) : M1 = M := by
  obtain ⟨dst, op, type, pos, after, guard⟩ := o
  cases op <;> simp only [kindOp] at hk <;> try (cases hk; done)
  case convert s d x =>
    simp only [opC, opM] at h
    split at h
    · refine conv_read (fun e he => ?_) h
      rw [he] at hk
      cases hk
    · cases h
  case call c =>
    obtain ⟨callee, args, ats⟩ := c
    cases callee <;> simp only at hk <;> try (cases hk; done)
    rename_i b
    simp only [opC, opM] at h
    split at h
    · cases b <;> simp only at hk <;> try (cases hk; done)
      all_goals
        unfold builtinM at h
        repeat' (split at h)
        all_goals first
          | contradiction
          | (cases h; done)
          | (simp only [Option.some.injEq, Prod.mk.injEq] at h; exact h.2.symm)
    · cases h
  all_goals
    simp only [opC, opM] at h
    repeat' (split at h)
    all_goals first
      | (cases h; done)
      | (simp only [Option.some.injEq, Prod.mk.injEq] at h; exact h.2.symm)
end

theorem kind_le {P : Program} (o : Oper) : kindOp P o ≤ 2 := by
  unfold kindOp
  repeat' split
  all_goals omega

/-! ### What must have been done ahead -/
theorem fold_bit (R : List Nat) : ∀ (l : List Nat) (m0 k : Nat), (l.foldl (fun m j => m ||| 2 ^ j ||| R.getD j 0) m0).testBit k = true → m0.testBit k = true ∨ ∃ j ∈ l, k = j ∨ (R.getD j 0).testBit k = true
  | [], m0, k, h => .inl h
  | j :: l, m0, k, h => by
    rcases fold_bit R l _ k h with h | ⟨i, hi, h⟩
    · rw [Nat.testBit_or, Nat.testBit_or, Nat.testBit_two_pow] at h
      simp only [Bool.or_eq_true, decide_eq_true_eq] at h
      rcases h with (h | h) | h
      · exact .inl h
      · exact .inr ⟨j, by simp, .inl h.symm⟩
      · exact .inr ⟨j, by simp, .inr h⟩
    · exact .inr ⟨i, by simp [hi], h⟩
theorem fold_congr (R R' : List Nat) : ∀ (l : List Nat) (m0 : Nat), (∀ j ∈ l, R.getD j 0 = R'.getD j 0) → l.foldl (fun m j => m ||| 2 ^ j ||| R.getD j 0) m0 = l.foldl (fun m j => m ||| 2 ^ j ||| R'.getD j 0) m0
  | [], m0, _ => rfl
  | j :: l, m0, h => by
    simp only [List.foldl_cons]
    rw [h j (by simp)]
    exact fold_congr R R' l _ fun i hi => h i (by simp [hi])
theorem strong_lt {o : Oper} {n j : Nat} (h : j ∈ strong o n) : j < n ∧ ∃ e ∈ o.after.toList, Region.binds .any e = true ∧ e.on = j := by
  unfold strong at h
  obtain ⟨e, he, h⟩ := List.mem_filterMap.1 h
  cases hb : (Region.binds .any e && Nat.blt e.on n) with
  | false => rw [hb] at h; cases h
  | true =>
    rw [hb] at h
    simp only [Option.some.injEq] at h
    simp only [Bool.and_eq_true, Nat.blt_eq] at hb
    subst h
    exact ⟨hb.2, e, he, hb.1, rfl⟩
theorem masks_spec : ∀ (l : List Oper) (acc : List Nat), (masksA l acc).length = acc.length + l.length ∧ (∀ j, j < acc.length → (masksA l acc).getD j 0 = acc.getD j 0) ∧
    ∀ i o, l[i]? = some o → (masksA l acc).getD (acc.length + i) 0 = (strong o (acc.length + i)).foldl (fun m j => m ||| 2 ^ j ||| (masksA l acc).getD j 0) 0
  | [], acc => ⟨by simp [masksA], fun j _ => rfl, fun i o h => by simp at h⟩
  | o :: l, acc => by
    simp only [masksA]
    generalize hm : (strong o acc.length).foldl (fun m j => m ||| 2 ^ j ||| acc.getD j 0) 0 = m
    obtain ⟨h1, h2, h3⟩ := masks_spec l (acc ++ [m])
    refine ⟨by rw [h1]; simp; omega, fun j hj => ?_, fun i o' h => ?_⟩
    · rw [h2 j (by simp; omega)]
      simp [List.getD_eq_getElem?_getD, List.getElem?_append_left hj]
    · cases i with
      | zero =>
        simp only [List.getElem?_cons_zero, Option.some.injEq] at h
        subst h
        rw [Nat.add_zero, h2 acc.length (by simp)]
        simp only [List.getD_eq_getElem?_getD, List.getElem?_append_right (Nat.le_refl _), Nat.sub_self, List.getElem?_cons_zero, Option.getD_some]
        refine hm.symm.trans ?_
        have := fold_congr acc (masksA l (acc ++ [m])) (strong o acc.length) 0 (fun j hj => by
          have hlt := (strong_lt hj).1
          rw [h2 j (by simp; omega)]
          simp [List.getD_eq_getElem?_getD, List.getElem?_append_left hlt])
        simpa [List.getD_eq_getElem?_getD] using this
      | succ i =>
        simp only [List.getElem?_cons_succ] at h
        have := h3 i o' h
        simp only [List.length_append, List.length_cons, List.length_nil] at this
        rw [show acc.length + (i + 1) = acc.length + (0 + 1) + i from by omega]
        exact this
theorem pre_spec {ops : List Oper} {i k : Nat} (h : pre (masksA ops []) i k = true) : ∃ o, ops[i]? = some o ∧ ∃ j ∈ strong o i, k = j ∨ pre (masksA ops []) j k = true := by
  obtain ⟨h1, _, h3⟩ := masks_spec ops []
  simp only [List.length_nil, Nat.zero_add] at h1 h3
  cases ho : ops[i]? with
  | none =>
    exfalso
    have hlen : ops.length ≤ i := List.getElem?_eq_none_iff.1 ho
    unfold pre at h
    rw [List.getD_eq_getElem?_getD, List.getElem?_eq_none (by omega)] at h
    simp at h
  | some o =>
    refine ⟨o, rfl, ?_⟩
    unfold pre at h
    rw [h3 i o ho] at h
    rcases fold_bit _ _ _ _ h with h | ⟨j, hj, h⟩
    · simp at h
    · exact ⟨j, hj, h⟩

theorem veq_eq : ∀ (n : Nat) {x y : Value}, veq n x y = true → y = x
  | 0, x, y, h => by simp [veq] at h
  | n + 1, x, y, h => by
    have hl : ∀ {xs ys : List Value}, xs.length = ys.length → ((xs.zip ys).all fun p => veq n p.1 p.2) = true → ys = xs := by
      intro xs
      induction xs with
      | nil => intro ys hl _; cases ys with
        | nil => rfl
        | cons => simp at hl
      | cons x xs ih => intro ys hl hz; cases ys with
        | nil => simp at hl
        | cons y ys =>
          simp only [List.zip_cons_cons, List.all_cons, Bool.and_eq_true] at hz
          rw [veq_eq n hz.1, ih (by simpa using hl) hz.2]
    unfold veq at h
    split at h
    · simp at h; rw [h]
    · simp at h; rw [h.1, h.2]
    · rename_i a b
      have : a.data.toList = b.data.toList := by simpa using h
      have : b = a := by
        obtain ⟨⟨la⟩⟩ := a
        obtain ⟨⟨lb⟩⟩ := b
        simp at this
        rw [this]
      rw [this]
    · simp at h; rw [h]
    · simp only [Bool.and_eq_true, decide_eq_true_eq] at h
      rw [h.1.1, Nat.eq_of_beq_eq_true h.1.2, Nat.eq_of_beq_eq_true h.2]
    · simp at h; rw [h]
    · rfl
    · rfl
    · simp only [Bool.and_eq_true] at h
      rw [Nat.eq_of_beq_eq_true h.1, veq_eq n h.2]
    · simp only [Bool.and_eq_true] at h
      have := hl (by simpa using Nat.eq_of_beq_eq_true h.1) h.2
      rw [Array.toList_inj.1 this]
    · simp only [Bool.and_eq_true] at h
      have := hl (by simpa using Nat.eq_of_beq_eq_true h.1) h.2
      rw [Array.toList_inj.1 this]
    · cases h

/-! ### Any order -/
section draw
variable {P : Program} {G base : Nat} {callF : CallF} {yieldF : YieldF}

theorem rgn_append (ops : List Oper) : ∀ (xs ys : List Oper) (s : St), rgn P G callF yieldF ops (xs ++ ys) s = match rgn P G callF yieldF ops xs s with
    | some s' => rgn P G callF yieldF ops ys s'
    | none => none
  | [], ys, s => rfl
  | x :: xs, ys, s => by
    simp only [List.cons_append, rgn]
    cases wantB ops x s.T with
    | none => rfl
    | some b =>
      cases b with
      | true =>
        simp only
        cases opC P G callF yieldF x s.T s.M with
        | none => rfl
        | some p =>
          simp only
          cases s.put x.dst p.1 p.2 with
          | none => rfl
          | some s2 => exact rgn_append ops xs ys s2
      | false =>
        simp only
        cases s.put x.dst undef s.M with
        | none => rfl
        | some s2 => exact rgn_append ops xs ys s2

/-- One step of a region. -/
structure Stp (P : Program) (G : Nat) (callF : CallF) (yieldF : YieldF) (ops : List Oper) (o : Oper) (s s2 : St) : Prop where
  ex : ∃ b v M, wantB ops o s.T = some b ∧ (b = true → opC P G callF yieldF o s.T s.M = some (v, M)) ∧ (b = false → v = undef ∧ M = s.M) ∧ s.put o.dst v M = some s2

theorem rgn_one {ops : List Oper} {o : Oper} {s s2 : St} (h : rgn P G callF yieldF ops [o] s = some s2) : Stp P G callF yieldF ops o s s2 := by
  simp only [rgn] at h
  cases hw : wantB ops o s.T with
  | none => rw [hw] at h; cases h
  | some b =>
    rw [hw] at h
    cases b with
    | true =>
      simp only at h
      cases ho : opC P G callF yieldF o s.T s.M with
      | none => rw [ho] at h; cases h
      | some p =>
        rw [ho] at h
        simp only at h
        cases hp : s.put o.dst p.1 p.2 with
        | none => rw [hp] at h; cases h
        | some s3 =>
          rw [hp] at h
          simp only [Option.some.injEq] at h
          subst h
          exact ⟨true, p.1, p.2, hw, fun _ => ho, (fun h => by cases h), hp⟩
    | false =>
      simp only at h
      cases hp : s.put o.dst undef s.M with
      | none => rw [hp] at h; cases h
      | some s3 =>
        rw [hp] at h
        simp only [Option.some.injEq] at h
        subst h
        exact ⟨false, undef, s.M, hw, (fun h => by cases h), fun _ => ⟨rfl, rfl⟩, hp⟩

theorem put_facts {s s2 : St} {dst : Option Tmp} {v : Value} {M : Mem} (h : s.put dst v M = some s2) (hs : s.nt + 2 ≤ 2 ^ 40) :
    s2.nt = s.nt ∧ s2.D = s.D ∧ s2.M = M ∧ (∀ d, dst = some d → d < s.nt ∧ s2.T.get d = some v) ∧ ∀ t, dst ≠ some t → s2.T.get t = s.T.get t := by
  unfold St.put at h
  cases dst with
  | none => simp only [Option.some.injEq] at h; subst h; exact ⟨rfl, rfl, rfl, (fun d hd => by cases hd), fun t _ => rfl⟩
  | some d =>
    simp only at h
    cases hb : Nat.blt d s.nt with
    | false => rw [hb] at h; cases h
    | true =>
      rw [hb] at h
      simp only [Option.some.injEq] at h
      subst h
      have hd : d < s.nt := by simpa using hb
      refine ⟨rfl, rfl, rfl, fun d' hd' => ?_, fun t ht => Tr.get_set_ne _ _ _ _ _ (fun e => ht (by rw [e]))⟩
      injection hd' with e
      rw [← e]
      exact ⟨hd, Tr.get_set_eq _ _ _ _ (Nat.le_trans (Nat.add_le_add_right (Nat.le_of_lt hd) 2) hs)⟩

/-- The states of a region in the text's order. -/
structure Tri (P : Program) (G : Nat) (callF : CallF) (yieldF : YieldF) (ops : List Oper) (s : St) (S : Nat → St) : Prop where
  zero : S 0 = s
  pref : ∀ k, k ≤ ops.length → rgn P G callF yieldF ops (ops.take k) s = some (S k)
  step : ∀ k o, ops[k]? = some o → Stp P G callF yieldF ops o (S k) (S (k + 1))

theorem tri_of {ops : List Oper} {s s1 : St} (h : rgn P G callF yieldF ops ops s = some s1) : ∃ S, Tri P G callF yieldF ops s S ∧ S ops.length = s1 := by
  have hp : ∀ k, k ≤ ops.length → ∃ sk, rgn P G callF yieldF ops (ops.take k) s = some sk := by
    intro k hk
    have := rgn_append (P := P) (G := G) (callF := callF) (yieldF := yieldF) ops (ops.take k) (ops.drop k) s
    rw [List.take_append_drop, h] at this
    cases hr : rgn P G callF yieldF ops (ops.take k) s with
    | none => rw [hr] at this; cases this
    | some sk => exact ⟨sk, rfl⟩
  refine ⟨fun k => (rgn P G callF yieldF ops (ops.take k) s).getD s, ⟨by simp [rgn], fun k hk => ?_, fun k o ho => ?_⟩, by simp [h]⟩
  · obtain ⟨sk, e⟩ := hp k hk
    rw [e]; rfl
  · have hk : k < ops.length := (List.getElem?_eq_some_iff.1 ho).1
    obtain ⟨sk, e⟩ := hp k (by omega)
    obtain ⟨sk1, e1⟩ := hp (k + 1) (by omega)
    simp only [e, e1, Option.getD_some]
    have ht : ops.take (k + 1) = ops.take k ++ [o] := by rw [List.take_add_one, ho]; rfl
    rw [ht, rgn_append, e] at e1
    exact rgn_one e1

section
variable {ops : List Oper} {s : St} {S : Nat → St}
theorem Tri.nt (h : Tri P G callF yieldF ops s S) (hs : s.nt + 2 ≤ 2 ^ 40) : ∀ k, k ≤ ops.length → (S k).nt = s.nt ∧ (S k).D = s.D
  | 0, _ => by rw [h.zero]; exact ⟨rfl, rfl⟩
  | k + 1, hk => by
    have ih := h.nt hs k (by omega)
    have ho : ops[k]? = some (ops[k]'(by omega)) := List.getElem?_eq_getElem _
    obtain ⟨b, v, M, _, _, _, hp⟩ := (h.step k _ ho).ex
    have := put_facts hp (by rw [ih.1]; exact hs)
    exact ⟨this.1.trans ih.1, this.2.1.trans ih.2⟩
theorem Tri.getT (h : Tri P G callF yieldF ops s S) (hs : s.nt + 2 ≤ 2 ^ 40) (t : Tmp) : ∀ (d k : Nat), k + d ≤ ops.length → (∀ j o, k ≤ j → j < k + d → ops[j]? = some o → o.dst ≠ some t) → (S (k + d)).T.get t = (S k).T.get t
  | 0, k, _, _ => rfl
  | d + 1, k, hk, hn => by
    have ih := h.getT hs t d k (by omega) (fun j o h1 h2 => hn j o h1 (by omega))
    have ho : ops[k + d]? = some (ops[k + d]'(by omega)) := List.getElem?_eq_getElem _
    obtain ⟨b, v, M, _, _, _, hp⟩ := (h.step (k + d) _ ho).ex
    have := put_facts hp (by rw [(h.nt hs (k + d) (by omega)).1]; exact hs)
    rw [← Nat.add_assoc, this.2.2.2.2 t (hn (k + d) _ (by omega) (by omega) ho), ih]
theorem Tri.getM (h : Tri P G callF yieldF ops s S) (hs : s.nt + 2 ≤ 2 ^ 40) : ∀ (d k : Nat), k + d ≤ ops.length → (∀ j, k ≤ j → j < k + d → isK P 2 ops j = false) → (S (k + d)).M = (S k).M
  | 0, k, _, _ => rfl
  | d + 1, k, hk, hn => by
    have ih := h.getM hs d k (by omega) (fun j h1 h2 => hn j h1 (by omega))
    have ho : ops[k + d]? = some (ops[k + d]'(by omega)) := List.getElem?_eq_getElem _
    obtain ⟨b, v, M, _, hb1, hb2, hp⟩ := (h.step (k + d) _ ho).ex
    have hpf := put_facts hp (by rw [(h.nt hs (k + d) (by omega)).1]; exact hs)
    have hk2 := hn (k + d) (by omega) (by omega)
    have hM : M = (S (k + d)).M := by
      cases b with
      | false => exact (hb2 rfl).2
      | true =>
        have hop := hb1 rfl
        unfold isK at hk2
        rw [ho] at hk2
        simp only at hk2
        generalize hkk : kindOp P (ops[k + d]'(by omega)) = kk at hk2
        have : kk = 0 ∨ kk = 1 := by
          have hle : kindOp P (ops[k + d]'(by omega)) ≤ 2 := kind_le _
          rw [hkk] at hle
          have : kk ≠ 2 := fun e => by subst e; cases hk2
          omega
        rcases this with e | e
        · subst e; exact (kind0 hkk hop).1
        · subst e; exact kind1 hkk hop
    rw [← Nat.add_assoc, hpf.2.2.1, hM, ih]
theorem Tri.sameT (h : Tri P G callF yieldF ops s S) (hs : s.nt + 2 ≤ 2 ^ 40) (t : Tmp) {k m : Nat} (hk : k ≤ ops.length) (hm : m ≤ ops.length) (hn : ∀ j o, ops[j]? = some o → o.dst = some t → (j < k ↔ j < m)) : (S k).T.get t = (S m).T.get t := by
  rcases Nat.le_total k m with hle | hle
  · obtain ⟨d, rfl⟩ : ∃ d, m = k + d := ⟨m - k, by omega⟩
    exact (h.getT hs t d k hm fun j o h1 h2 ho hd => by have := (hn j o ho hd).2 h2; omega).symm
  · obtain ⟨d, rfl⟩ : ∃ d, k = m + d := ⟨k - m, by omega⟩
    exact h.getT hs t d m hk fun j o h1 h2 ho hd => by have := (hn j o ho hd).1 h2; omega
theorem Tri.sameM (h : Tri P G callF yieldF ops s S) (hs : s.nt + 2 ≤ 2 ^ 40) {k m : Nat} (hk : k ≤ ops.length) (hm : m ≤ ops.length) (hn : ∀ j, j < ops.length → isK P 2 ops j = true → (j < k ↔ j < m)) : (S k).M = (S m).M := by
  have key : ∀ j, j < ops.length → (¬ (j < k ↔ j < m)) → isK P 2 ops j = false := by
    intro j hj hh
    cases hb : isK P 2 ops j with
    | false => rfl
    | true => exact absurd (hn j hj hb) hh
  rcases Nat.le_total k m with hle | hle
  · obtain ⟨d, rfl⟩ : ∃ d, m = k + d := ⟨m - k, by omega⟩
    exact (h.getM hs d k hm fun j h1 h2 => key j (by omega) (fun e => by have := e.2 h2; omega)).symm
  · obtain ⟨d, rfl⟩ : ∃ d, k = m + d := ⟨k - m, by omega⟩
    exact h.getM hs d m hk fun j h1 h2 => key j (by omega) (fun e => by have := e.1 h2; omega)
end

/-- What is known while a region runs in some order. -/
structure Inv (P : Program) (G base : Nat) (callF : CallF) (yieldF : YieldF) (ops : Array Oper) (S : Nat → St) (ρ : Ren) (d0 : List Deferred) (w0 : World) (L : Array Bool) (a : Act) (w : World) : Prop where
  size : L.size = ops.size
  closed : ∀ i k, L.getD i false = true → pre (masksA ops.toList []) i k = true → L.getD k false = true
  more : ∃ ρ', ρ.le ρ' ∧
    (∃ k, k ≤ ops.size ∧ (∀ j, j < ops.size → isK P 2 ops.toList j = true → (L.getD j false = true ↔ j < k)) ∧ HR P G base ρ' (S k).M w) ∧
    (∀ t, ∃ m, m ≤ ops.size ∧ (∀ j o, ops[j]? = some o → o.dst = some t → (L.getD j false = true ↔ j < m)) ∧ VR ρ' (((S m).T.get t).getD undef) (a.tmps.getD t undef))
  nt : a.tmps.size = (S 0).nt
  defers : a.defers = d0
  below : Below base w0 w

theorem ready_mem {ops : Array Oper} {L : Array Bool} {i : Nat} (h : i ∈ Region.ready .any ops L) (hL : L.size = ops.size) : ∃ o, ops[i]? = some o ∧ i < ops.size ∧ L.getD i false = false ∧ ∀ e ∈ o.after.toList, Region.binds .any e = true → L.getD e.on false = true := by
  unfold Region.ready at h
  rw [List.mem_filter, List.mem_range] at h
  obtain ⟨hi, h⟩ := h
  have ho : ops[i]? = some (ops[i]'hi) := Array.getElem?_eq_getElem hi
  rw [ho] at h
  simp only [Option.map_some, Option.getD_some, Bool.and_eq_true, Bool.not_eq_true'] at h
  refine ⟨_, ho, hi, ?_, fun e he hb => ?_⟩
  · have := h.1
    rw [Array.getD_eq_getD_getElem?] at this ⊢
    rw [Array.getElem?_eq_getElem (by omega)] at this ⊢
    exact this
  · have := h.2
    rw [Array.all_eq_true_iff_forall_mem] at this
    have := this e (by simpa using he)
    rw [hb] at this
    simpa using this

theorem static {ops : Array Oper} (h : drawOk P ops = true) : ∀ j oj, ops[j]? = some oj → (∀ e ∈ oj.after.toList, Region.binds .any e = true → e.on < j) ∧
    ∀ i oi, i < j → ops[i]? = some oi → pre (masksA ops.toList []) j i = true ∨ (oi.apart ops oj = true ∧ ¬ (kindOp P oi = 2 ∧ kindOp P oj = 2)) := by
  intro j oj hj
  unfold drawOk at h
  simp only at h
  have hjl : j < ops.size := (Array.getElem?_eq_some_iff.1 hj).1
  have h := List.all_eq_true.1 h j (List.mem_range.2 hjl)
  rw [hj] at h
  simp only [Bool.and_eq_true] at h
  refine ⟨fun e he hb => ?_, fun i oi hi hoi => ?_⟩
  · have := List.all_eq_true.1 h.1 e he
    rw [hb] at this
    simpa using this
  · have := List.all_eq_true.1 h.2 i (List.mem_range.2 hi)
    rw [hoi] at this
    simp only [Bool.or_eq_true, Bool.and_eq_true, Bool.not_eq_true'] at this
    rcases this with this | this
    · exact .inl this
    · refine .inr ⟨this.1, fun ⟨e1, e2⟩ => ?_⟩
      rw [e1, e2] at this
      cases this.2

theorem pre_lt {ops : List Oper} : ∀ {i k : Nat}, pre (masksA ops []) i k = true → k < i := by
  intro i
  induction i using Nat.strongRecOn with
  | _ i ih =>
    intro k h
    obtain ⟨o, ho, j, hj, h⟩ := pre_spec h
    have hlt := (strong_lt hj).1
    rcases h with h | h
    · omega
    · exact Nat.lt_trans (ih j hlt h) hlt

theorem opC_opM {T : Tr Value} {M : Mem} {o : Oper} (hk : kindOp P o = 1) : opC P G callF yieldF o T M = opM P G o.op o.type T M := by
  obtain ⟨dst, op, type, pos, after, guard⟩ := o
  unfold opC
  split
  · rename_i h
    simp only at h
    subst h
    cases hk
  · rfl

theorem getD_set {L : Array Bool} {i : Nat} (hi : i < L.size) (j : Nat) : (L.setIfInBounds i true).getD j false = if j = i then true else L.getD j false := by
  simp only [Array.getD_eq_getD_getElem?]
  by_cases e : j = i
  · subst e; simp [hi]
  · rw [if_neg e, Array.getElem?_setIfInBounds_ne (by omega)]

section
variable {ops : Array Oper} {s : St} {S : Nat → St} {ρ : Ren} {d0 : List Deferred} {w0 : World}

/-- One operation of a region, in some order. -/
theorem inv_step (hP : PG P) (hcall : CallOk P G base callF) (hyield : YieldOk P G base yieldF) (hst : drawOk P ops = true) (htri : Tri P G callF yieldF ops.toList s S) (hchk : drawChk P G callF yieldF ops.toList s = true) (hs : s.nt + 2 ≤ 2 ^ 40)
    {L : Array Bool} {a : Act} {w : World} (hI : Inv P G base callF yieldF ops S ρ d0 w0 L a w) {i : Nat} (hi : i ∈ Region.ready .any ops L) (r : Option Nat) (n : Nat) {Q : Exit → Act → World → Prop} {K : Act → World → Prop}
    (hK : ∀ a' w', Inv P G base callF yieldF ops S ρ d0 w0 (L.setIfInBounds i true) a' w' → K a' w') : wpOpIn (fw r) n P ops Q i K a w := by
  obtain ⟨o, ho, hil, hLi, hpreds⟩ := ready_mem hi hI.size
  have hol : ops.toList[i]? = some o := by simpa using ho
  have hlen : ops.toList.length = ops.size := by simp
  obtain ⟨ρ', hle, ⟨k, hk, hkE, hM⟩, hT⟩ := hI.more
  obtain ⟨hedge, hord⟩ := static hst i o ho
  -- what is ahead of i is done; what i is ahead of is not
  have hahead : ∀ j, pre (masksA ops.toList []) i j = true → L.getD j false = true := by
    intro j hj
    obtain ⟨o', ho', j', hj', h⟩ := pre_spec hj
    rw [hol] at ho'
    injection ho' with ho'
    subst ho'
    obtain ⟨_, e, he, hb, rfl⟩ := strong_lt hj'
    have hd := hpreds e he hb
    rcases h with h | h
    · rw [h]; exact hd
    · exact hI.closed _ _ hd h
  have hbehind : ∀ j, pre (masksA ops.toList []) j i = true → L.getD j false = false := by
    intro j hj
    cases hb : L.getD j false with
    | false => rfl
    | true => rw [hI.closed j i hb hj] at hLi; cases hLi
  -- operations that share a temporary with i
  have hwr : ∀ t, (t ∈ o.looksAt ops ∨ o.dst = some t) → ∀ j oj, ops[j]? = some oj → oj.dst = some t → (L.getD j false = true ↔ j < i) := by
    intro t ht j oj hj hd
    rcases Nat.lt_trichotomy j i with hlt | heq | hgt
    · have : pre (masksA ops.toList []) i j = true := by
        rcases hord j oj hlt hj with h | ⟨h, _⟩
        · exact h
        · obtain ⟨h1, h2, _⟩ := Oper.apart_spec h
          rcases ht with ht | ht
          · exact absurd ht (h1 t hd)
          · exact absurd ht (h2 t hd)
      exact ⟨fun _ => hlt, fun _ => hahead j this⟩
    · subst heq
      exact ⟨(fun h => by rw [hLi] at h; cases h), fun h => by omega⟩
    · have hj' := static hst j oj hj
      have : pre (masksA ops.toList []) j i = true := by
        rcases hj'.2 i o hgt ho with h | ⟨h, _⟩
        · exact h
        · obtain ⟨_, h2, h3⟩ := Oper.apart_spec h
          rcases ht with ht | ht
          · exact absurd ht (h3 t hd)
          · exact absurd hd (h2 t ht)
      exact ⟨(fun h => by rw [hbehind j this] at h; cases h), fun h => by omega⟩
  have hTi : ∀ t, t ∈ o.looksAt ops → VR ρ' (((S i).T.get t).getD undef) (a.tmps.getD t undef) := by
    intro t ht
    obtain ⟨m, hm, hmw, hv⟩ := hT t
    have : (S m).T.get t = (S i).T.get t := htri.sameT hs t (by rw [hlen]; exact hm) (by rw [hlen]; omega) fun j oj hj hd => by
      have hj' : ops[j]? = some oj := by simpa using hj
      exact (hmw j oj hj' hd).symm.trans (hwr t (.inl ht) j oj hj' hd)
    rw [← this]; exact hv
  obtain ⟨b, v, Mv, hw, hb1, hb2, hput⟩ := (htri.step i o hol).ex
  have hnt := htri.nt hs i (by rw [hlen]; omega)
  have hpf := put_facts hput (by rw [hnt.1]; exact hs)
  have hzero : (S 0).nt = s.nt := by rw [htri.zero]
  -- the new state, whatever was written
  have hnew : ∀ (v' : Value) (w' : World) (ρ2 : Ren), ρ'.le ρ2 → VR ρ2 v v' → HR P G base ρ2 (if kindOp P o = 2 then (S (i + 1)).M else (S k).M) w' → Below base w w' → Inv P G base callF yieldF ops S ρ d0 w0 (L.setIfInBounds i true) (a.put o.dst v') w' := by
    intro v' w' ρ2 hle2 hv hM2 hbel
    have hset := getD_set (L := L) (i := i) (by rw [hI.size]; exact hil)
    refine ⟨by simp [hI.size], ?_, ⟨ρ2, hle.trans hle2, ?_, ?_⟩, ?_, ?_, hI.below.trans hbel⟩
    · intro j k' hj hpk
      rw [hset] at hj ⊢
      by_cases e : k' = i
      · rw [if_pos e]
      · rw [if_neg e]
        by_cases e2 : j = i
        · subst e2; exact hahead k' hpk
        · rw [if_neg e2] at hj
          exact hI.closed j k' hj hpk
    · by_cases hk2 : kindOp P o = 2
      · rw [if_pos hk2] at hM2
        refine ⟨i + 1, by omega, fun j hj hjE => ?_, hM2⟩
        rw [hset]
        by_cases e : j = i
        · subst e; simp
        · rw [if_neg e]
          have hcmp : L.getD j false = true ↔ j < i := by
            unfold isK at hjE
            cases hoj : ops.toList[j]? with
            | none => rw [hoj] at hjE; cases hjE
            | some oj =>
              rw [hoj] at hjE
              have hkj : kindOp P oj = 2 := Nat.eq_of_beq_eq_true hjE
              have hoj' : ops[j]? = some oj := by simpa using hoj
              rcases Nat.lt_or_ge j i with hlt | hge
              · have : pre (masksA ops.toList []) i j = true := by
                  rcases hord j oj hlt hoj' with h | ⟨_, h⟩
                  · exact h
                  · exact absurd ⟨hkj, hk2⟩ h
                exact ⟨fun _ => hlt, fun _ => hahead j this⟩
              · have hgt : i < j := by omega
                have : pre (masksA ops.toList []) j i = true := by
                  rcases (static hst j oj hoj').2 i o hgt ho with h | ⟨_, h⟩
                  · exact h
                  · exact absurd ⟨hk2, hkj⟩ h
                exact ⟨(fun h => by rw [hbehind j this] at h; cases h), fun h => by omega⟩
          rw [hcmp]; omega
      · rw [if_neg hk2] at hM2
        refine ⟨k, hk, fun j hj hjE => ?_, hM2⟩
        rw [hset]
        have e : j ≠ i := by
          intro e; subst e
          unfold isK at hjE
          rw [hol] at hjE
          exact hk2 (Nat.eq_of_beq_eq_true hjE)
        rw [if_neg e]
        exact hkE j hj hjE
    · intro t
      by_cases ht : o.dst = some t
      · refine ⟨i + 1, by omega, fun j oj hj hd => ?_, ?_⟩
        · rw [hset]
          by_cases e : j = i
          · subst e; simp
          · rw [if_neg e, hwr t (.inr ht) j oj hj hd]; omega
        · obtain ⟨hd1, hd2⟩ := hpf.2.2.2.1 t ht
          rw [hd2]
          have hlt : t < a.tmps.size := by rw [hI.nt, hzero, ← hnt.1]; exact hd1
          rw [ht]
          simp only [Act.put, Option.getD_some, Array.getD_eq_getD_getElem?]
          rw [Array.getElem?_setIfInBounds_self_of_lt hlt]
          exact hv
      · obtain ⟨m, hm, hmw, hvm⟩ := hT t
        refine ⟨m, hm, fun j oj hj hd => ?_, ?_⟩
        · rw [hset]
          have e : j ≠ i := by
            intro e; subst e
            rw [ho] at hj; injection hj with hj; subst hj
            exact ht hd
          rw [if_neg e]; exact hmw j oj hj hd
        · have : (a.put o.dst v').tmps.getD t undef = a.tmps.getD t undef := by
            cases hdd : o.dst with
            | none => rfl
            | some d =>
              have hne : d ≠ t := fun e => ht (by rw [hdd, e])
              simp only [Act.put, Array.getD_eq_getD_getElem?]
              rw [Array.getElem?_setIfInBounds_ne hne]
          rw [this]
          exact hvm.mono hle2
    · cases hdd : o.dst <;> simp [Act.put, hI.nt]
    · cases hdd : o.dst <;> simp [Act.put, hI.defers]
  -- the guard
  have hwant := wantB_ok (ops := ops) (o := o) (T := (S i).T) (a := a) (ρ := ρ') (fun j w' g d hg hj hd => hTi d (by
    have hj' : ops[j]? = some g := by simpa using hj
    simp [Oper.looksAt, hg, hj', hd])) hw
  unfold wpOpIn
  rw [ho]
  simp only
  rw [hwant]
  cases b with
  | false =>
    obtain ⟨rfl, rfl⟩ := hb2 rfl
    simp only [Bool.false_eq_true, if_false]
    refine ⟨fun f _ => fw_fn r f, hK _ _ (hnew undef w ρ' (Ren.le.refl _) (VR.undef _) ?_ (Below.refl _ _))⟩
    split
    · rename_i hk2
      rw [hpf.2.2.1]
      have : (S k).M = (S i).M := htri.sameM hs (by rw [hlen]; exact hk) (by rw [hlen]; omega) fun j hj hjE => by
        rw [hlen] at hj
        rw [← hkE j hj hjE]
        unfold isK at hjE
        cases hoj : ops.toList[j]? with
        | none => rw [hoj] at hjE; cases hjE
        | some oj =>
          rw [hoj] at hjE
          have hkj : kindOp P oj = 2 := Nat.eq_of_beq_eq_true hjE
          have hoj' : ops[j]? = some oj := by simpa using hoj
          rcases Nat.lt_trichotomy j i with hlt | heq | hgt
          · have : pre (masksA ops.toList []) i j = true := by
              rcases hord j oj hlt hoj' with h | ⟨_, h⟩
              · exact h
              · exact absurd ⟨hkj, hk2⟩ h
            exact ⟨fun _ => hlt, fun _ => hahead j this⟩
          · subst heq; exact ⟨(fun h => by rw [hLi] at h; cases h), fun h => by omega⟩
          · have : pre (masksA ops.toList []) j i = true := by
              rcases (static hst j oj hoj').2 i o hgt ho with h | ⟨_, h⟩
              · exact h
              · exact absurd ⟨hk2, hkj⟩ h
            exact ⟨(fun h => by rw [hbehind j this] at h; cases h), fun h => by omega⟩
      rw [← this]; exact hM
    · exact hM
  | true =>
    simp only [if_true]
    have hop := hb1 rfl
    have hEv : ∀ x ∈ o.op.operands, EvOk G ρ' (S i).T a x := by
      intro x hx u hu
      cases x with
      | tmp t =>
        have := hTi t (by
          unfold Oper.looksAt
          rw [List.mem_append]
          exact .inl (List.mem_filterMap.2 ⟨.tmp t, by simpa using hx, rfl⟩))
        simp only [ev] at hu
        cases ht : (S i).T.get t with
        | none => rw [ht] at hu this; simp at hu; subst hu; exact this
        | some u' => rw [ht] at hu this; simp at hu; subst hu; exact this
      | const c =>
        simp only [ev] at hu
        cases hc : isFlat c with
        | false => rw [hc] at hu; cases hu
        | true => rw [hc] at hu; injection hu with hu; subst hu; exact isFlat_refl hc
      | global g =>
        simp only [ev] at hu
        cases hg : Nat.blt g G with
        | false => rw [hg] at hu; cases hu
        | true =>
          rw [hg] at hu; injection hu with hu; subst hu
          obtain ⟨l, h1, h2, h3⟩ := hM.glob g (by simpa using hg)
          have := VR.ptr (ρ := ρ') ⟨g, 0, none⟩ l h1 rfl
          simp only [h2, h3] at this
          exact this
      | func f => simp only [ev] at hu; injection hu with hu; subst hu; exact .func f _ _ _ _ .nil .nil
    -- which heap the operation meets
    have hmeet : opC P G callF yieldF o (S i).T (S k).M = some (v, if kindOp P o = 2 then (S (i + 1)).M else (S k).M) := by
      have hk012 := kind_le (P := P) o
      have hcmpE : (∀ j oj, ops[j]? = some oj → kindOp P oj = 2 → (pre (masksA ops.toList []) i j = true ∨ pre (masksA ops.toList []) j i = true ∨ j = i)) → (S k).M = (S i).M := by
        intro hall
        refine htri.sameM hs (by rw [hlen]; exact hk) (by rw [hlen]; omega) fun j hj hjE => ?_
        rw [hlen] at hj
        rw [← hkE j hj hjE]
        unfold isK at hjE
        cases hoj : ops.toList[j]? with
        | none => rw [hoj] at hjE; cases hjE
        | some oj =>
          rw [hoj] at hjE
          have hkj : kindOp P oj = 2 := Nat.eq_of_beq_eq_true hjE
          have hoj' : ops[j]? = some oj := by simpa using hoj
          rcases hall j oj hoj' hkj with h | h | h
          · have hlt : j < i := pre_lt h
            exact ⟨fun _ => hlt, fun _ => hahead j h⟩
          · have hgt : i < j := pre_lt h
            exact ⟨(fun h' => by rw [hbehind j h] at h'; cases h'), fun h' => by omega⟩
          · subst h; exact ⟨(fun h => by rw [hLi] at h; cases h), fun h => by omega⟩
      rcases (show kindOp P o = 0 ∨ kindOp P o = 1 ∨ kindOp P o = 2 by omega) with e0 | e1 | e2
      · rw [if_neg (by omega)]
        exact (kind0 e0 hop).2 _
      · rw [if_neg (by omega)]
        have hMv := kind1 e1 hop
        cases hfl : flagged P ops.toList (masksA ops.toList []) i with
        | false =>
          have : (S k).M = (S i).M := hcmpE fun j oj hj hkj => by
            unfold flagged at hfl
            have hi1 : isK P 1 ops.toList i = true := by unfold isK; rw [hol]; simp [e1]
            rw [hi1, Bool.true_and] at hfl
            have hfl := List.any_eq_false.1 hfl j (List.mem_range.2 (Array.getElem?_eq_some_iff.1 hj).1)
            have hj' : ops.toList[j]? = some oj := by simpa using hj
            have hj2 : isK P 2 ops.toList j = true := by unfold isK; rw [hj']; simp [hkj]
            rw [hj2] at hfl
            cases h1 : pre (masksA ops.toList []) i j with
            | true => exact .inl rfl
            | false =>
              cases h2 : pre (masksA ops.toList []) j i with
              | true => exact .inr (.inl rfl)
              | false => rw [h1, h2] at hfl; simp at hfl
          rw [this, hop, hMv]
        | true =>
          have hchk' := hchk
          unfold drawChk at hchk'
          simp only at hchk'
          have hchk' := List.all_eq_true.1 hchk' i (List.mem_range.2 (by rw [hlen]; exact hil))
          rw [hfl, hol, htri.pref i (by rw [hlen]; omega)] at hchk'
          simp only [hw, Bool.not_true, Bool.false_or] at hchk'
          rw [opC_opM e1] at hop
          rw [hop] at hchk'
          simp only at hchk'
          have hchk' := List.all_eq_true.1 hchk' k (List.mem_range.2 (by rw [hlen]; omega))
          have hfit : fitsAt P ops.toList (masksA ops.toList []) i k = true := by
            unfold fitsAt
            refine List.all_eq_true.2 fun j hj => ?_
            have hj := List.mem_range.1 hj
            rw [hlen] at hj
            cases hjE : isK P 2 ops.toList j with
            | false => rfl
            | true =>
              have hjk := hkE j hj hjE
              simp only [Bool.not_true, Bool.false_or]
              cases hb : Nat.blt j k with
              | true =>
                simp only
                cases h1 : pre (masksA ops.toList []) j i with
                | false => rfl
                | true =>
                  have := hbehind j h1
                  rw [hjk.2 (by simpa using hb)] at this
                  cases this
              | false =>
                simp only
                cases h1 : pre (masksA ops.toList []) i j with
                | false => rfl
                | true =>
                  have := hjk.1 (hahead j h1)
                  have : Nat.blt j k = true := by simpa using this
                  rw [hb] at this; cases this
          rw [hfit, htri.pref k (by rw [hlen]; exact hk)] at hchk'
          simp only [Bool.not_true, Bool.false_or] at hchk'
          cases hok : opM P G o.op o.type (S i).T (S k).M with
          | none => rw [hok] at hchk'; cases hchk'
          | some p =>
            obtain ⟨v', M'⟩ := p
            rw [hok] at hchk'
            simp only at hchk'
            have hv' := veq_eq 8 hchk'
            subst hv'
            have hok' : opC P G callF yieldF o (S i).T (S k).M = some (v', M') := by rw [opC_opM e1]; exact hok
            have := kind1 e1 hok'
            rw [hok', this]
      · rw [if_pos e2]
        have : (S k).M = (S i).M := hcmpE fun j oj hj hkj => by
          rcases Nat.lt_trichotomy j i with hlt | heq | hgt
          · rcases hord j oj hlt hj with h | ⟨_, h⟩
            · exact .inl h
            · exact absurd ⟨hkj, e2⟩ h
          · exact .inr (.inr heq)
          · rcases (static hst j oj hj).2 i o hgt ho with h | ⟨_, h⟩
            · exact .inr (.inl h)
            · exact absurd ⟨e2, hkj⟩ h
        rw [this, hop, hpf.2.2.1]
    exact opC_ok hP hcall hyield hM o hEv hmeet r n fun v' w' ρ2 k1 k2 k3 k4 => hK _ _ (hnew v' w' ρ2 k1 k2 k3 k4)
end
end draw
end Go.Abs
