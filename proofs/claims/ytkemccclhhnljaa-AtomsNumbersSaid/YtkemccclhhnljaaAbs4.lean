/-
  The abstract machine and the model, operation by operation: slices, indexes, maps, append, copy.
-/
import Derived.Test.YtkemccclhhnljaaAbs3
import Derived.Lib.ConvBytes
namespace Go.Abs
open Go.RowKit

inductive OVR (ρ : Ren) : Option Value → Option Value → Prop where
  | none : OVR ρ none none
  | some (v v' : Value) (h : VR ρ v v') : OVR ρ (some v) (some v')

section
variable {P : Program} {G base : Nat} {ρ : Ren} {M M1 : Mem} {w w1 : World}

theorem bnd_ok {v v' : Value} {y n : Nat} (h : bnd v y = some n) (r : VR ρ v v') : n ≤ y ∧ ∀ (y' : Nat) (c : BoundsCode) (w : World), y ≤ y' → (Instr.sliceBound v' y' c).run P w = .ok n w := by
  cases r <;> simp only [bnd] at h <;> try cases h
  rename_i k i
  by_cases q : 0 ≤ i ∧ i ≤ (y : Int)
  · simp only [q.1, q.2, decide_true, Bool.and_self] at h
    injection h with h
    subst h
    refine ⟨by omega, fun y' c w hy => ?_⟩
    simp [Instr.sliceBound, asIntOf, show 0 ≤ i ∧ i ≤ (y' : Int) from ⟨q.1, by omega⟩]
  · have : (decide (0 ≤ i) && decide (i ≤ (y : Int))) = false := by
      rw [Bool.and_eq_false_iff]
      by_cases q1 : 0 ≤ i
      · right; simp; omega
      · left; simpa using q1
    rw [this] at h; cases h

/-- the bounds of a slice expression; the real capacity may be greater -/
theorem bnds_ok {len cap : Nat} {lo hi mx lo' hi' mx' : Option Value} {l h m : Nat} (hb : bnds len cap lo hi mx = some (l, h, m)) (r1 : OVR ρ lo lo') (r2 : OVR ρ hi hi') (r3 : OVR ρ mx mx') :
    l ≤ h ∧ h ≤ m ∧ m ≤ cap ∧ (mx = none → m = cap) ∧ ∀ (cap' : Nat) (s : Bool) (w : World), cap ≤ cap' → (Instr.sliceBounds s len cap' lo' hi' mx').run P w = .ok (l, h, if mx = none then cap' else m) w := by
  unfold bnds at hb
  cases r3 with
  | none =>
    simp only at hb
    cases r2 with
    | none =>
      simp only at hb
      cases hl : Nat.ble len cap with
      | false => rw [hl] at hb; cases hb
      | true =>
        have hlc : len ≤ cap := Nat.le_of_ble_eq_true hl
        rw [hl] at hb
        simp only at hb
        cases r1 with
        | none =>
          simp only [Option.some.injEq, Prod.mk.injEq] at hb
          obtain ⟨rfl, rfl, rfl⟩ := hb
          exact ⟨by omega, hlc, Nat.le_refl _, fun _ => rfl, fun cap' s w hc => by simp [Instr.sliceBounds]⟩
        | some v v' r =>
          simp only at hb
          cases h1 : bnd v len with
          | none => rw [h1] at hb; cases hb
          | some n =>
            rw [h1] at hb
            simp only [Option.some.injEq, Prod.mk.injEq] at hb
            obtain ⟨rfl, rfl, rfl⟩ := hb
            obtain ⟨k1, k2⟩ := bnd_ok (P := P) h1 r
            exact ⟨k1, hlc, Nat.le_refl _, fun _ => rfl, fun cap' s w hc => by simp [Instr.sliceBounds, k2 _ _ _ (Nat.le_refl _)]⟩
    | some u u' ru =>
      simp only at hb
      cases h2 : bnd u cap with
      | none => rw [h2] at hb; cases hb
      | some nh =>
        rw [h2] at hb
        simp only at hb
        obtain ⟨j1, j2⟩ := bnd_ok (P := P) h2 ru
        cases r1 with
        | none =>
          simp only [Option.some.injEq, Prod.mk.injEq] at hb
          obtain ⟨rfl, rfl, rfl⟩ := hb
          exact ⟨by omega, j1, Nat.le_refl _, fun _ => rfl, fun cap' s w hc => by simp [Instr.sliceBounds, j2 _ _ _ hc]⟩
        | some v v' r =>
          simp only at hb
          cases h1 : bnd v nh with
          | none => rw [h1] at hb; cases hb
          | some n =>
            rw [h1] at hb
            simp only [Option.some.injEq, Prod.mk.injEq] at hb
            obtain ⟨rfl, rfl, rfl⟩ := hb
            obtain ⟨k1, k2⟩ := bnd_ok (P := P) h1 r
            exact ⟨k1, j1, Nat.le_refl _, fun _ => rfl, fun cap' s w hc => by simp [Instr.sliceBounds, j2 _ _ _ hc, k2 _ _ _ (Nat.le_refl _)]⟩
  | some z z' rz =>
    simp only at hb
    cases h3 : bnd z cap with
    | none => rw [h3] at hb; cases hb
    | some nm =>
      rw [h3] at hb
      simp only at hb
      obtain ⟨i1, i2⟩ := bnd_ok (P := P) h3 rz
      cases r2 with
      | none => cases hb
      | some u u' ru =>
        simp only at hb
        cases h2 : bnd u nm with
        | none => rw [h2] at hb; cases hb
        | some nh =>
          rw [h2] at hb
          simp only at hb
          obtain ⟨j1, j2⟩ := bnd_ok (P := P) h2 ru
          cases r1 with
          | none =>
            simp only [Option.some.injEq, Prod.mk.injEq] at hb
            obtain ⟨rfl, rfl, rfl⟩ := hb
            exact ⟨by omega, j1, i1, (fun h => by cases h), fun cap' s w hc => by simp [Instr.sliceBounds, i2 _ _ _ hc, j2 _ _ _ (Nat.le_refl _)]⟩
          | some v v' r =>
            simp only at hb
            cases h1 : bnd v nh with
            | none => rw [h1] at hb; cases hb
            | some n =>
              rw [h1] at hb
              simp only [Option.some.injEq, Prod.mk.injEq] at hb
              obtain ⟨rfl, rfl, rfl⟩ := hb
              obtain ⟨k1, k2⟩ := bnd_ok (P := P) h1 r
              exact ⟨k1, j1, i1, (fun h => by cases h), fun cap' s w hc => by simp [Instr.sliceBounds, i2 _ _ _ hc, j2 _ _ _ (Nat.le_refl _), k2 _ _ _ (Nat.le_refl _)]⟩

theorem sliceOf_ok (h : HR P G base ρ M w) {t : TypeId} {x x' : Value} {lo hi mx lo' hi' mx' : Option Value} {v : Value} (hs : sliceOf P M t x lo hi mx = some v) (rx : VR ρ x x') (r1 : OVR ρ lo lo') (r2 : OVR ρ hi hi') (r3 : OVR ρ mx mx') :
    ∃ v', VR ρ v v' ∧ (Instr.sliceAt t x' lo' hi' mx').run P w = .ok v' w := by
  unfold sliceOf at hs
  cases hu : P.underlying t with
  | none => rw [hu] at hs; cases hs
  | some d =>
    rw [hu] at hs
    cases d with
    | string =>
      cases rx <;> simp only at hs <;> try cases hs
      rename_i s
      cases r3 with
      | some z z' rz => simp at hs
      | none =>
        simp only at hs
        cases hb : bnds s.size s.size lo hi none with
        | none => rw [hb] at hs; cases hs
        | some q =>
          obtain ⟨l, hh, m⟩ := q
          rw [hb] at hs
          simp only [Option.some.injEq] at hs
          subst hs
          obtain ⟨_, _, _, _, k⟩ := bnds_ok (P := P) hb r1 r2 .none
          refine ⟨_, .str _, ?_⟩
          simp [Instr.sliceAt, Instr.slice, run_underlying hu, k s.size false w (Nat.le_refl _)]
    | slice e =>
      cases hsz : szOf P e with
      | none => cases rx <;> simp [hsz] at hs
      | some sz =>
        have key : ∀ (a : Option Addr) (len cap : Nat), x = .slice a len cap → ∃ l hh m, bnds len cap lo hi mx = some (l, hh, m) ∧ (match a with
            | none => some (Value.slice none (hh - l) (m - l))
            | some a => match fits M a sz with
              | true => some (.slice (some (a.add (l * sz))) (hh - l) (m - l))
              | false => none) = some v := by
          rintro a len cap rfl
          simp only [hsz] at hs
          cases hb : bnds len cap lo hi mx with
          | none => simp [hb] at hs
          | some q =>
            obtain ⟨l, hh, m⟩ := q
            refine ⟨l, hh, m, rfl, ?_⟩
            cases a with
            | none => simpa [hb] using hs
            | some a => simp only [hb] at hs; exact hs
        cases rx with
        | sl0 n c =>
          obtain ⟨l, hh, m, hb, hv⟩ := key none n c rfl
          simp only [Option.some.injEq] at hv
          subst hv
          obtain ⟨k1, k2, k3, k4, k⟩ := bnds_ok (P := P) hb r1 r2 r3
          refine ⟨.slice none (hh - l) (m - l), .sl0 _ _, ?_⟩
          simp only [Instr.sliceAt, Instr.slice, Sem.run_bind, run_underlying hu, Result.andThen_ok, k c true w (Nat.le_refl _), szOf_run hsz, Sem.run_pure]
          have : (if mx = none then c else m) = m := by split <;> simp_all
          simp only [this]
          congr 2
          split <;> rfl
        | slE a a' =>
          obtain ⟨l, hh, m, hb, hv⟩ := key (some a) 0 0 rfl
          obtain ⟨k1, k2, k3, k4, k⟩ := bnds_ok (P := P) hb r1 r2 r3
          simp only at hv
          cases hf : fits M a sz with
          | false => rw [hf] at hv; cases hv
          | true =>
            rw [hf] at hv
            simp only [Option.some.injEq] at hv
            subst hv
            have hm : m = 0 := by omega
            have hl : l = 0 := by omega
            have hhh : hh = 0 := by omega
            subst hm hl hhh
            refine ⟨.slice (some a') 0 0, .slE _ _, ?_⟩
            have hif : (if mx = none then 0 else 0) = 0 := by split <;> rfl
            simp only [Instr.sliceAt, Instr.slice, Sem.run_bind, run_underlying hu, Result.andThen_ok, k 0 true w (Nat.le_refl _), szOf_run hsz, Sem.run_pure, hif]
            simp
        | sl a loc n c c' hρ hsp hx hy =>
          obtain ⟨l, hh, m, hb, hv⟩ := key (some a) n c rfl
          obtain ⟨k1, k2, k3, k4, k⟩ := bnds_ok (P := P) hb r1 r2 r3
          simp only at hv
          cases hf : fits M a sz with
          | false => rw [hf] at hv; cases hv
          | true =>
            rw [hf] at hv
            simp only [Option.some.injEq] at hv
            subst hv
            have hcc : c ≤ c' := by
              cases hxx : loc.x with
              | none => rw [hx hxx]; omega
              | some s => exact (hy s hxx).1
            have hxs : ∀ s, loc.x = some s → s = sz := by
              intro s hs'
              unfold fits at hf
              cases hg : M.get a.block with
              | none => rw [hg] at hf; cases hf
              | some o =>
                rw [hg] at hf
                cases o with
                | cells cc tt xx =>
                  obtain ⟨o', _, ho⟩ := h.get hg (by simp) hρ
                  cases o' with
                  | cells c2 t2 fr =>
                    have hlx := ho.2.1
                    rw [hs'] at hlx
                    subst hlx
                    exact Nat.eq_of_beq_eq_true hf
                  | _ => exact ho.elim
                | _ => simp at hf
            generalize hm' : (if mx = none then c' else m) = m'
            have hmm : m ≤ m' := by rw [← hm']; split <;> omega
            have hm2 : m' ≤ c' := by rw [← hm']; split <;> omega
            have hrun : (Instr.sliceAt t (.slice (some ⟨loc.g, loc.off + a.off, none⟩) n c') lo' hi' mx').run P w = .ok (.slice (if m' = l then some ⟨loc.g, loc.off + a.off, none⟩ else some ((⟨loc.g, loc.off + a.off, none⟩ : Addr).add (l * sz))) (hh - l) (m' - l)) w := by
              simp only [Instr.sliceAt, Instr.slice, Sem.run_bind, run_underlying hu, Result.andThen_ok, k c' true w hcc, szOf_run hsz, Sem.run_pure, hm']
              rfl
            by_cases q : m' = l
            · have e1 : hh - l = 0 := by omega
              have e2 : m - l = 0 := by omega
              have e3 : m' - l = 0 := by omega
              rw [if_pos q, e1, e3] at hrun
              rw [e1, e2]
              exact ⟨_, .slE _ _, hrun⟩
            · rw [if_neg q, add_none] at hrun
              rw [add_spot hsp]
              refine ⟨_, ?_, hrun⟩
              have := VR.sl (ρ := ρ) ⟨a.block, a.off + l * sz, none⟩ loc (hh - l) (m - l) (m' - l) hρ rfl (fun hxx => by
                have := hx hxx
                have : m' = m := by
                  rw [← hm']
                  split
                  · rename_i e; rw [k4 e]; omega
                  · rfl
                rw [this]) (fun s hs' => by
                obtain ⟨y1, y2⟩ := hy s hs'
                have := hxs s hs'
                subst this
                refine ⟨by omega, ?_⟩
                have hmul : (m' - l) * s + l * s = m' * s := by rw [← Nat.add_mul]; congr 1; omega
                have hle : m' * s ≤ c' * s := Nat.mul_le_mul_right _ hm2
                show loc.off + (a.off + l * s) + (m' - l) * s ≤ loc.n
                omega)
              rwa [show loc.off + (a.off + l * sz) = loc.off + a.off + l * sz from by omega] at this
        | _ => simp at hs
    | array n e =>
      cases rx <;> simp only at hs <;> try cases hs
      rename_i a loc hρ hsp
      cases hsz : szOf P e with
      | none => simp [hsz] at hs
      | some sz =>
        simp only [hsz] at hs
        cases hb : bnds n n lo hi mx with
        | none => simp [hb] at hs
        | some q =>
          obtain ⟨l, hh, m⟩ := q
          simp only [hb] at hs
          obtain ⟨k1, k2, k3, k4, k⟩ := bnds_ok (P := P) hb r1 r2 r3
          cases hg : M.get a.block with
          | none => rw [hg] at hs; cases hs
          | some o =>
            rw [hg] at hs
            cases o with
            | cells cc tt xx =>
              cases xx with
              | some s => simp at hs
              | none =>
                simp only [Option.some.injEq] at hs
                subst hs
                obtain ⟨o', _, ho⟩ := h.get hg (by simp) hρ
                have hlx : loc.x = none := by
                  cases o' with
                  | cells c2 t2 fr => exact ho.2.1
                  | _ => exact ho.elim
                have hm : (if mx = none then n else m) = m := by
                  split
                  · rename_i e; rw [k4 e]
                  · rfl
                have hrun : (Instr.sliceAt t (.pointer (some ⟨loc.g, loc.off + a.off, none⟩)) lo' hi' mx').run P w = .ok (.slice (some (if m = l then ⟨loc.g, loc.off + a.off, none⟩ else (⟨loc.g, loc.off + a.off, none⟩ : Addr).add (l * sz))) (hh - l) (m - l)) w := by
                  simp only [Instr.sliceAt, Instr.sureAddr, Sem.run_bind, run_underlying hu, Result.andThen_ok, k n false w (Nat.le_refl _), szOf_run hsz, Sem.run_pure, hm]
                by_cases q : m = l
                · have e1 : hh - l = 0 := by omega
                  have e2 : m - l = 0 := by omega
                  rw [if_pos q, e1, e2] at hrun
                  rw [e1, e2]
                  exact ⟨_, .slE _ _, hrun⟩
                · rw [if_neg q, add_none] at hrun
                  rw [add_spot hsp]
                  refine ⟨_, ?_, hrun⟩
                  have := VR.sl (ρ := ρ) ⟨a.block, a.off + l * sz, none⟩ loc (hh - l) (m - l) (m - l) hρ rfl (fun _ => rfl) (fun s hs' => by rw [hlx] at hs'; cases hs')
                  rwa [show loc.off + (a.off + l * sz) = loc.off + a.off + l * sz from by omega] at this
            | _ => simp at hs
    | _ => simp at hs

theorem inR {i : Int} {n : Nat} (h : (decide (0 ≤ i) && decide (i < (n : Int))) = true) : 0 ≤ i ∧ i < (n : Int) := by simpa using h

theorem indexA_ok {t : TypeId} {x x' i i' : Value} {v : Value} (hs : indexA P t x i = some v) (rx : VR ρ x x') (ri : VR ρ i i') : ∃ v', VR ρ v v' ∧ ∀ w, (Instr.indexAt t x' i').run P w = .ok v' w := by
  unfold indexA at hs
  cases ri <;> simp only at hs <;> try cases hs
  rename_i k i
  cases hu : P.underlying t with
  | none => rw [hu] at hs; cases hs
  | some d =>
    rw [hu] at hs
    cases d with
    | array len e =>
      cases rx <;> simp only at hs <;> try cases hs
      rename_i a loc hρ hsp
      cases hsz : szOf P e with
      | none => simp [hsz] at hs
      | some sz =>
        cases hd : (decide (0 ≤ i) && decide (i < (len : Int))) with
        | false => rw [hsz, hd] at hs; cases hs
        | true =>
          rw [hsz, hd] at hs
          simp only [Option.some.injEq] at hs
          subst hs
          rw [add_spot hsp]
          refine ⟨_, .ptr _ loc hρ rfl, fun w => ?_⟩
          simp [Instr.indexAt, asIntOf, run_underlying hu, Instr.sureAddr, inR hd, szOf_run hsz, add_none, Nat.add_assoc]
    | slice e =>
      cases rx with
      | sl a loc n c c' hρ hsp hx hy =>
        simp only at hs
        cases hsz : szOf P e with
        | none => simp [hsz] at hs
        | some sz =>
          cases hd : (decide (0 ≤ i) && decide (i < (n : Int))) with
          | false => rw [hsz, hd] at hs; cases hs
          | true =>
            rw [hsz, hd] at hs
            simp only [Option.some.injEq] at hs
            subst hs
            rw [add_spot hsp]
            refine ⟨_, .ptr _ loc hρ rfl, fun w => ?_⟩
            simp [Instr.indexAt, asIntOf, run_underlying hu, inR hd, szOf_run hsz, add_none, Nat.add_assoc]
      | slE a a' =>
        simp only at hs
        cases hd : (decide (0 ≤ i) && decide (i < ((0 : Nat) : Int))) with
        | false => cases hsz : szOf P e <;> rw [hsz, hd] at hs <;> cases hs
        | true => have := inR hd; omega
      | _ => simp at hs
    | _ => simp at hs

theorem indexV_ok {t : TypeId} {x x' i i' : Value} {v : Value} (hs : indexV P t x i = some v) (rx : VR ρ x x') (ri : VR ρ i i') : ∃ v', VR ρ v v' ∧ ∀ w, (Instr.index t x' i').run P w = .ok v' w := by
  unfold indexV at hs
  cases ri <;> simp only at hs <;> try cases hs
  rename_i k i
  cases hu : P.underlying t with
  | none => rw [hu] at hs; cases hs
  | some d =>
    rw [hu] at hs
    cases d with
    | array len e =>
      cases rx <;> simp only at hs <;> try cases hs
      rename_i cs cs' hl
      cases hsz : szOf P e with
      | none => simp [hsz] at hs
      | some sz =>
        cases hd : (decide (0 ≤ i) && decide (i < (len : Int))) with
        | false => rw [hsz, hd] at hs; cases hs
        | true =>
          rw [hsz, hd] at hs
          simp only at hs
          obtain ⟨v', r, k⟩ := partL_ok hs hl
          refine ⟨v', r, fun w => ?_⟩
          simp [Instr.index, asIntOf, run_underlying hu, inR hd, szOf_run hsz, k]
    | string =>
      cases rx <;> simp only at hs <;> try cases hs
      rename_i s
      cases hd : decide (0 ≤ i) with
      | false => rw [hd] at hs; cases hs
      | true =>
        rw [hd] at hs
        simp only at hs
        have h0 : 0 ≤ i := by simpa using hd
        cases hb : s.data.toList[i.toNat]? with
        | none => rw [hb] at hs; cases hs
        | some b =>
          rw [hb] at hs
          simp only [Option.some.injEq] at hs
          subst hs
          refine ⟨_, .int _ _, fun w => ?_⟩
          have hb' : s[i.toNat]? = some b := by
            obtain ⟨hlt, e⟩ := List.getElem?_eq_some_iff.1 hb
            have hlt' : i.toNat < s.size := by simpa using hlt
            rw [getElem?_pos s i.toNat hlt']
            have e' : s.data[i.toNat]'hlt' = b := by simpa using e
            exact congrArg some e'
          simp [Instr.index, asIntOf, run_underlying hu, h0, hb']
    | _ => simp at hs
end
end Go.Abs
