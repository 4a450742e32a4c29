/-
  The abstract machine and the model: code.
-/
import Derived.Test.YtkemccclhhnljaaAbs10
import Derived.RangeFuncLeaves
import Derived.LoopNIn
namespace Go.Abs
open Go.RowKit
set_option linter.unusedVariables false
set_option linter.unusedSimpArgs false

/-! ### A region in any order -/
theorem filter_lt {p q : Nat → Bool} {i : Nat} : ∀ (l : List Nat), (∀ x ∈ l, q x = true → p x = true) → i ∈ l → p i = true → q i = false → (l.filter q).length < (l.filter p).length
  | [], _, hi, _, _ => by cases hi
  | x :: l, h, hi, hp, hq => by
    have hle : ∀ l : List Nat, (∀ x ∈ l, q x = true → p x = true) → (l.filter q).length ≤ (l.filter p).length := by
      intro l
      induction l with
      | nil => intro _; simp
      | cons y l ih =>
        intro h
        have := ih fun x hx => h x (by simp [hx])
        have hy := h y (by simp)
        cases hqy : q y with
        | true => rw [List.filter_cons_of_pos hqy, List.filter_cons_of_pos (hy hqy)]; simpa using this
        | false =>
          rw [List.filter_cons_of_neg (by simp [hqy])]
          cases hpy : p y with
          | true => rw [List.filter_cons_of_pos hpy]; simp only [List.length_cons]; omega
          | false => rw [List.filter_cons_of_neg (by simp [hpy])]; exact this
    rcases List.mem_cons.1 hi with rfl | hi
    · rw [List.filter_cons_of_neg (by simp [hq]), List.filter_cons_of_pos hp]
      have := hle l fun x hx => h x (by simp [hx])
      simp only [List.length_cons]; omega
    · have ih := filter_lt l (fun x hx => h x (by simp [hx])) hi hp hq
      have hy := h x (by simp)
      cases hqy : q x with
      | true => rw [List.filter_cons_of_pos hqy, List.filter_cons_of_pos (hy hqy)]; simpa using ih
      | false =>
        rw [List.filter_cons_of_neg (by simp [hqy])]
        cases hpy : p x with
        | true => rw [List.filter_cons_of_pos hpy]; simp only [List.length_cons]; omega
        | false => rw [List.filter_cons_of_neg (by simp [hpy])]; exact ih

def cnt (n : Nat) (L : Array Bool) : Nat := ((List.range n).filter fun j => !L.getD j false).length
theorem cnt_zero {n : Nat} {L : Array Bool} (h : cnt n L = 0) (j : Nat) (hj : j < n) : L.getD j false = true := by
  unfold cnt at h
  have := List.length_eq_zero_iff.1 h
  rw [List.filter_eq_nil_iff] at this
  simpa using this j (List.mem_range.2 hj)
theorem cnt_set {n : Nat} {L : Array Bool} {i : Nat} (hi : i < n) (hs : L.size = n) (h : L.getD i false = false) : cnt n (L.setIfInBounds i true) < cnt n L := by
  unfold cnt
  have hset := getD_set (L := L) (i := i) (by omega)
  refine filter_lt (i := i) _ (fun x _ hx => ?_) (List.mem_range.2 hi) (by simp [h]) (by simp only [hset i]; simp)
  rw [hset x] at hx
  by_cases e : x = i
  · rw [if_pos e] at hx; cases hx
  · rwa [if_neg e] at hx

theorem mem_ready {ops : Array Oper} {L : Array Bool} {i : Nat} {o : Oper} (ho : ops[i]? = some o) (hL : L.size = ops.size) (hi : L.getD i false = false) (h : ∀ e ∈ o.after.toList, Region.binds .any e = true → L.getD e.on false = true) : i ∈ Region.ready .any ops L := by
  have hil : i < ops.size := (Array.getElem?_eq_some_iff.1 ho).1
  unfold Region.ready
  rw [List.mem_filter, List.mem_range]
  refine ⟨hil, ?_⟩
  rw [ho]
  simp only [Option.map_some, Option.getD_some, Bool.and_eq_true, Bool.not_eq_true']
  refine ⟨?_, ?_⟩
  · rw [Array.getD_eq_getD_getElem?] at hi ⊢
    rw [Array.getElem?_eq_getElem (by omega)] at hi ⊢
    exact hi
  · rw [Array.all_eq_true_iff_forall_mem]
    intro e he
    cases hb : Region.binds .any e with
    | false => simp
    | true =>
      have := h e (by simpa using he) hb
      simpa using this

section
variable {P : Program} {G base : Nat} {callF : CallF} {yieldF : YieldF} {ops : Array Oper} {s : St} {S : Nat → St} {ρ : Ren} {d0 : List Deferred} {w0 : World}

theorem any_ok (hP : PG P) (hcall : CallOk P G base callF) (hyield : YieldOk P G base yieldF) (hst : drawOk P ops = true) (htri : Tri P G callF yieldF ops.toList s S) (hchk : drawChk P G callF yieldF ops.toList s = true) (hs : s.nt + 2 ≤ 2 ^ 40)
    (r : Option Nat) (n : Nat) {Q : Exit → Act → World → Prop} (hend : ∀ L a w, Inv P G base callF yieldF ops S ρ d0 w0 L a w → (∀ j, j < ops.size → L.getD j false = true) → Q .normal a w) :
    ∀ (fuel : Nat) (L : Array Bool) (a : Act) (w : World), Inv P G base callF yieldF ops S ρ d0 w0 L a w → cnt ops.size L ≤ fuel → wpAnyIn (fw r) n P .any ops Q fuel L a w
  | 0, L, a, w, hI, hc => by
    have hall : ∀ j, j < ops.size → L.getD j false = true := fun j hj => cnt_zero (by omega) j hj
    refine ⟨List.eq_nil_iff_forall_not_mem.2 fun i hi => ?_, hend L a w hI hall⟩
    obtain ⟨o, _, hil, hLi, _⟩ := ready_mem hi hI.size
    rw [hall i hil] at hLi; cases hLi
  | fuel + 1, L, a, w, hI, hc => by
    refine ⟨fun hr => hend L a w hI ?_, fun i hi => ?_⟩
    · intro j
      induction j using Nat.strongRecOn with
      | _ j ih =>
        intro hj
        cases hLj : L.getD j false with
        | true => rfl
        | false =>
          have ho : ops[j]? = some (ops[j]'hj) := Array.getElem?_eq_getElem hj
          have : j ∈ Region.ready .any ops L := mem_ready ho hI.size hLj fun e he hb => by
            have hlt := (static hst j _ ho).1 e he hb
            exact ih e.on hlt (by omega)
          rw [hr] at this
          cases this
    · refine inv_step hP hcall hyield hst htri hchk hs hI hi r n fun a' w' h => any_ok hP hcall hyield hst htri hchk hs r n hend fuel _ a' w' h ?_
      obtain ⟨o, _, hil, hLi, _⟩ := ready_mem hi hI.size
      have := cnt_set hil hI.size hLi
      omega

theorem draw_ok (hP : PG P) (hcall : CallOk P G base callF) (hyield : YieldOk P G base yieldF) (hst : drawOk P ops = true) {s1 : St} (h : rgn P G callF yieldF ops.toList ops.toList s = some s1) (hchk : drawChk P G callF yieldF ops.toList s = true)
    {a : Act} {w : World} (hs : SR P G base ρ s a w) (id : Nat) (r : Option Nat) (n : Nat) {Q : Exit → Act → World → Prop} (hQ : ∀ a' w' ρ', ρ.le ρ' → SR P G base ρ' s1 a' w' → Below base w w' → Q .normal a' w') : (Code.region id ops true).wpIn (fw r) n P Q a w := by
  obtain ⟨S, htri, hS⟩ := tri_of h
  have hlen : ops.toList.length = ops.size := by simp
  have hnt := hs.T.2.1
  refine wpIn_region_any hP.mixed (any_ok (ρ := ρ) (d0 := a.defers) (w0 := w) hP hcall hyield hst htri hchk hnt r n (fun L a' w' hI hall => ?_) ops.size _ a _ ?_ ?_)
  · obtain ⟨ρ', hle, ⟨k, hk, hkE, hM⟩, hT⟩ := hI.more
    have hn := htri.nt hnt ops.size (by omega)
    rw [hlen] at hS
    refine hQ a' w' ρ' hle ⟨⟨?_, ?_, fun t => ?_⟩, ?_, ?_⟩ hI.below
    · rw [hI.nt, htri.zero, ← hS, hn.1]
    · rw [← hS, hn.1]; exact hnt
    · obtain ⟨m, hm, hmw, hv⟩ := hT t
      have : (S m).T.get t = (S ops.size).T.get t := htri.sameT hnt t (by omega) (by omega) fun j o hj hd => by
        have hjl : j < ops.size := by have := (List.getElem?_eq_some_iff.1 hj).1; omega
        have := (hmw j o (by simpa using hj) hd).1 (hall j hjl)
        omega
      rw [this, hS] at hv
      exact hv
    · have : (S k).M = (S ops.size).M := htri.sameM hnt (by omega) (by omega) fun j hj hjE => by
        rw [hlen] at hj
        have := (hkE j hj hjE).1 (hall j hj)
        omega
      rw [this, hS] at hM
      exact hM
    · rw [← hS, hn.2, hI.defers]
      exact hs.D.mono hle
  · have hf : ∀ j, (Array.replicate ops.size false).getD j false = false := fun j => by
      rw [Array.getD_eq_getD_getElem?, Array.getElem?_replicate]
      split <;> rfl
    refine ⟨by simp, (fun i k hi _ => by rw [hf] at hi; cases hi), ⟨ρ, Ren.le.refl _, ⟨0, Nat.zero_le _, fun j _ _ => ⟨(fun h => by rw [hf] at h; cases h), (fun h => by omega)⟩, ?_⟩, fun t => ⟨0, Nat.zero_le _, fun j o _ _ => ⟨(fun h => by rw [hf] at h; cases h), (fun h => by omega)⟩, ?_⟩⟩, ?_, rfl, Below.drew (Below.refl _ _)⟩
    · rw [htri.zero]; exact hs.M.drew
    · rw [htri.zero]; exact hs.T.2.2 t
    · rw [htri.zero]; exact hs.T.1
  · unfold cnt
    have := List.length_filter_le (fun j => !(Array.replicate ops.size false).getD j false) (List.range ops.size)
    simpa using this
end

/-! ### Code -/
def exOf : Ex → Exit
  | .norm => .normal
  | .exit i => .exit i
  | .goto l => .goto l
  | .ret => .ret

def RdOk (ρ : Ren) (rd r : Option Nat) : Prop := match rd with
  | none => r = none
  | some l => ∃ loc, ρ l = some loc ∧ loc.off = 0 ∧ r = some loc.g
theorem RdOk.mono {ρ ρ' : Ren} (hle : ρ.le ρ') {rd r : Option Nat} (h : RdOk ρ rd r) : RdOk ρ' rd r := by
  cases rd with
  | none => exact h
  | some l => obtain ⟨loc, h1, h2, h3⟩ := h; exact ⟨loc, hle _ _ h1, h2, h3⟩

/-- What is known of one piece of code from one state. -/
def One (P : Program) (G base : Nat) (rd : Option Nat) (c : Code) (s : St) (e : Ex) (s1 : St) : Prop := ∀ ρ a w r n (Q : Exit → Act → World → Prop), SR P G base ρ s a w → RdOk ρ rd r →
  (∀ a' w' ρ', ρ.le ρ' → SR P G base ρ' s1 a' w' → Below base w w' → Q (exOf e) a' w') → c.wpIn (fw r) n P Q a w

def ExOk (P : Program) (G base : Nat) (ex : Option Nat → Code → St → Option (Ex × St)) : Prop := ∀ rd c s e s1, ex rd c s = some (e, s1) → codeOk P c = true → One P G base rd c s e s1

theorem stepR_scope {P : Program} {b : Frame} {a : Act} {k : List Item} {cs : List Frame} {w : World} {c : Code} : step P (lone (b.atR a (.code (.scope c) :: k)) cs w) = .next (lone (b.atR a (.code c :: .inScope c :: k)) cs w) :=
  step_lone_go (by simp [stepG, stepG.exec, Frame.atR])
theorem stepR_inScope {P : Program} {b : Frame} {a : Act} {k : List Item} {cs : List Frame} {w : World} {c : Code} : step P (lone (b.atR a (.inScope c :: k)) cs w) = .next (lone (b.atR a k) cs w) :=
  step_lone_go (by simp [stepG, stepG.exec, Frame.atR])

def scopeIn (F : Fence) (n : Nat) (P : Program) (body : Code) (Q : Exit → Act → World → Prop) : Nat → Code → Act → World → Prop
  | 0, _, _, _ => False
  | m + 1, c, a, w => c.wpIn F n P (fun e a w => match e with
      | .goto l => match findLabel body l with
        | some rest => scopeIn F n P body Q m rest a w
        | none => Q (.goto l) a w
      | e => Q e a w) a w

theorem wpIn_scope_rounds {F : Fence} {n : Nat} {P : Program} {c : Code} {Q : Exit → Act → World → Prop} {a : Act} {w : World} (m : Nat) (h : scopeIn F n P c Q m c a w) : (Code.scope c).wpIn F n P Q a w := by
  intro b k cs hro hb hr
  have key : ∀ m c' a w, scopeIn F n P c Q m c' a w → ∃ e a' w', Q e a' w' ∧ ArrivesIn (Machine.fenced P F) P (lone (b.atR a (.code c' :: .inScope c :: k)) cs w) b k cs e a' w' := by
    intro m
    induction m with
    | zero => intro c' a w h; exact h.elim
    | succ m ih =>
      intro c' a w h
      obtain ⟨e, a₁, w₁, hq, harr⟩ := h b (.inScope c :: k) cs hro hb hr
      cases e with
      | normal => exact ⟨.normal, a₁, w₁, hq, StepsIn.trans harr (.one (fenced_calm hb hr rfl) stepR_inScope)⟩
      | exit id =>
        have hx : exitTo id (.inScope c :: k) = exitTo id k := by simp [exitTo]
        exact ⟨.exit id, a₁, w₁, hq, fun k' hk => harr.1 k' (by rw [hx]; exact hk), fun hr' hk => harr.2 hr' (by rw [hx]; exact hk)⟩
      | goto l =>
        simp only at hq
        cases hfl : findLabel c l with
        | none =>
          rw [hfl] at hq
          have hx : gotoIn l (.inScope c :: k) = gotoIn l k := by simp [gotoIn, hfl]
          exact ⟨.goto l, a₁, w₁, hq, fun k' hk => harr.1 k' (by rw [hx]; exact hk), fun hr' hk => harr.2 hr' (by rw [hx]; exact hk)⟩
        | some rest =>
          rw [hfl] at hq
          obtain ⟨e₂, a₂, w₂, hq₂, harr₂⟩ := ih rest a₁ w₁ hq
          have hst := harr.1 (.code rest :: .inScope c :: k) (by simp [gotoIn, hfl])
          exact ⟨e₂, a₂, w₂, hq₂, .of_steps hst harr₂⟩
      | ret => exact ⟨_, a₁, w₁, hq, harr⟩
      | panic ch => exact ⟨_, a₁, w₁, hq, harr⟩
      | outgrown => exact ⟨_, a₁, w₁, hq, harr⟩
  obtain ⟨e, a', w', hq, harr⟩ := key m c a w h
  exact ⟨e, a', w', hq, .of_steps (.one (fenced_calm hb hr rfl) stepR_scope) harr⟩

section
variable {P : Program} {G base : Nat}

theorem loop_ok {rd : Option Nat} {b : Code} {ex : St → Option (Ex × St)} (hex : ∀ s e s1, ex s = some (e, s1) → One P G base rd b s e s1) : ∀ (m : Nat) (s : St) (e : Ex) (s1 : St), loopR ex m s = some (e, s1) →
    ∀ ρ a w r n (Q : Exit → Act → World → Prop), SR P G base ρ s a w → RdOk ρ rd r → (∀ a' w' ρ', ρ.le ρ' → SR P G base ρ' s1 a' w' → Below base w w' → Q (exOf e) a' w') → Code.roundsIn (fw r) n P b Q m a w
  | 0, s, e, s1, h => by cases h
  | m + 1, s, e, s1, h => by
    intro ρ a w r n Q hs hrd hQ
    simp only [loopR] at h
    rw [roundsIn_succ]
    cases hx : ex s with
    | none => rw [hx] at h; cases h
    | some p =>
      obtain ⟨e2, s2⟩ := p
      rw [hx] at h
      refine hex _ _ _ hx ρ a w r n _ hs hrd fun a' w' ρ' h1 h2 h3 => ?_
      cases e2 with
      | norm =>
        exact loop_ok hex m s2 e s1 h ρ' a' w' r n Q h2 (hrd.mono h1) fun a2 w2 ρ2 k1 k2 k3 => hQ a2 w2 ρ2 (h1.trans k1) k2 (h3.trans k3)
      | exit i =>
        simp only [Option.some.injEq, Prod.mk.injEq] at h
        obtain ⟨rfl, rfl⟩ := h
        exact hQ a' w' ρ' h1 h2 h3
      | goto i =>
        simp only [Option.some.injEq, Prod.mk.injEq] at h
        obtain ⟨rfl, rfl⟩ := h
        exact hQ a' w' ρ' h1 h2 h3
      | ret =>
        simp only [Option.some.injEq, Prod.mk.injEq] at h
        obtain ⟨rfl, rfl⟩ := h
        exact hQ a' w' ρ' h1 h2 h3

theorem findLabel_ok {P : Program} : ∀ {b : Code} {l : Nat} {rest : Code}, findLabel b l = some rest → codeOk P b = true → codeOk P rest = true
  | .seq x y, l, rest, h, hb => by
    simp only [codeOk, Bool.and_eq_true] at hb
    simp only [findLabel] at h
    cases hx : findLabel x l with
    | some r =>
      rw [hx] at h
      simp only [Option.some.injEq] at h
      subst h
      simp only [codeOk, Bool.and_eq_true]
      exact ⟨findLabel_ok hx hb.1, hb.2⟩
    | none => rw [hx] at h; exact findLabel_ok h hb.2
  | .label l', l, rest, h, hb => by
    simp only [findLabel] at h
    split at h
    · simp only [Option.some.injEq] at h; subst h; rfl
    · cases h
  | .skip, _, _, h, _ | .region .., _, _, h, _ | .cond .., _, _, h, _ | .block .., _, _, h, _ | .loop _, _, _, h, _ | .exit _, _, _, h, _ | .goto _, _, _, h, _ | .ret, _, _, h, _ | .scope _, _, _, h, _ | .refuse _, _, _, h, _ | .rangeFunc .., _, _, h, _ => by
    simp [findLabel] at h

theorem scope_ok {rd : Option Nat} {b : Code} {ex : Code → St → Option (Ex × St)} (hb : codeOk P b = true) (hex : ∀ c s e s1, ex c s = some (e, s1) → codeOk P c = true → One P G base rd c s e s1) : ∀ (m : Nat) (c : Code) (s : St) (e : Ex) (s1 : St), scopeR ex b m c s = some (e, s1) → codeOk P c = true →
    ∀ ρ a w r n (Q : Exit → Act → World → Prop), SR P G base ρ s a w → RdOk ρ rd r → (∀ a' w' ρ', ρ.le ρ' → SR P G base ρ' s1 a' w' → Below base w w' → Q (exOf e) a' w') → scopeIn (fw r) n P b Q m c a w
  | 0, c, s, e, s1, h, _ => by cases h
  | m + 1, c, s, e, s1, h, hc => by
    intro ρ a w r n Q hs hrd hQ
    simp only [scopeR] at h
    unfold scopeIn
    cases hx : ex c s with
    | none => rw [hx] at h; cases h
    | some p =>
      obtain ⟨e2, s2⟩ := p
      rw [hx] at h
      refine hex _ _ _ _ hx hc ρ a w r n _ hs hrd fun a' w' ρ' h1 h2 h3 => ?_
      cases e2 with
      | norm =>
        simp only [Option.some.injEq, Prod.mk.injEq] at h
        obtain ⟨rfl, rfl⟩ := h
        exact hQ a' w' ρ' h1 h2 h3
      | exit i =>
        simp only [Option.some.injEq, Prod.mk.injEq] at h
        obtain ⟨rfl, rfl⟩ := h
        exact hQ a' w' ρ' h1 h2 h3
      | goto i =>
        simp only [exOf] at h ⊢
        cases hfl : findLabel b i with
        | none =>
          rw [hfl] at h
          simp only [Option.some.injEq, Prod.mk.injEq] at h
          obtain ⟨rfl, rfl⟩ := h
          exact hQ a' w' ρ' h1 h2 h3
        | some rest =>
          rw [hfl] at h
          simp only at h ⊢
          exact scope_ok hb hex m rest s2 e s1 h (findLabel_ok hfl hb) ρ' a' w' r n Q h2 (hrd.mono h1) fun a2 w2 ρ2 k1 k2 k3 => hQ a2 w2 ρ2 (h1.trans k1) k2 (h3.trans k3)
      | ret =>
        simp only [Option.some.injEq, Prod.mk.injEq] at h
        obtain ⟨rfl, rfl⟩ := h
        exact hQ a' w' ρ' h1 h2 h3
end
end Go.Abs
