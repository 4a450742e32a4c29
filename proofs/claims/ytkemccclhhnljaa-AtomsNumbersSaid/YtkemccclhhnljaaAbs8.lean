/-
  The abstract machine and the model: any operation that is no call of a function.
-/
import Derived.Test.YtkemccclhhnljaaAbs7
namespace Go.Abs
open Go.RowKit
set_option linter.unusedVariables false
set_option linter.unusedSimpArgs false

/-- What an operation comes to. -/
def OpRes (P : Program) (G base : Nat) (ρ : Ren) (w : World) (v : Value) (M1 : Mem) (r : Result Next) : Prop :=
  ∃ v' w' ρ', (r = .ok (.value v') w' ∨ (r = .ok .skip w' ∧ v' = undef)) ∧ ρ.le ρ' ∧ VR ρ' v v' ∧ HR P G base ρ' M1 w' ∧ Below base w w'

section
variable {P : Program} {G base : Nat} {ρ : Ren} {M M1 : Mem} {w w1 : World} {T : Tr Value} {nt : Nat} {a : Act}

theorem OpRes.pure_ {v v' : Value} (h : HR P G base ρ M w) (r : VR ρ v v') : OpRes P G base ρ w v M (.ok (.value v') w) := ⟨v', w, ρ, .inl rfl, Ren.le.refl _, r, h, Below.refl _ _⟩

theorem optEv_ok {x : Option Operand} {v : Option Value} (hE : ∀ y ∈ x.toList, EvOk G ρ T a y) (h : optEv G T x = some v) : OVR ρ v (x.map a.eval) := by
  cases x with
  | none => simp only [optEv, Option.some.injEq] at h; subst h; exact .none
  | some x =>
    simp only [optEv] at h
    cases hx : ev G T x with
    | none => rw [hx] at h; cases h
    | some u => rw [hx] at h; simp only [Option.some.injEq] at h; subst h; exact .some _ _ (hE x (by simp) _ hx)

theorem bin_ok {op : BinOp} {t : TypeId} {ox oy : Operand} {x y x' y' : Value} {v : Value} (h : bin P op t ox oy x y = some v) (rx : VR ρ x x') (ry : VR ρ y y') :
    ∃ v', VR ρ v v' ∧ ∀ w, (do eqGuard op t ox oy x' y'; binOp op t x' y' : Sem Value).run P w = .ok v' w := by
  unfold bin at h
  cases hf : (isFlat x && isFlat y) with
  | true =>
    rw [hf] at h
    simp only [Bool.and_eq_true] at hf h
    have ex := isFlat_eq hf.1 rx
    have ey := isFlat_eq hf.2 ry
    subst ex ey
    cases he : eval0 P (do eqGuard op t ox oy x' y'; binOp op t x' y') with
    | none => rw [he] at h; cases h
    | some u =>
      rw [he] at h
      simp only at h
      cases hu : isFlat u with
      | false => rw [hu] at h; cases h
      | true =>
        rw [hu] at h
        simp only [Option.some.injEq] at h
        subst h
        exact ⟨u, isFlat_refl hu, eval0_run he⟩
  | false =>
    rw [hf] at h
    simp only at h
    cases hu : P.underlying t with
    | none => rw [hu] at h; cases h
    | some d =>
      rw [hu] at h
      simp only at h
      have key : ∀ b, nilEq d x y = some b → (∀ w, (Op.equal t x' y').run P w = .ok b w) ∧ (∀ o : BinOp, eqGuard o t ox oy x' y' = pure ()) ∧
          (∀ w, (binOp .eql t x' y').run P w = .ok (.bool b) w) ∧ (∀ w, (binOp .neq t x' y').run P w = .ok (.bool !b) w) := by
        intro b hb
        have h1 : ∀ w, (Op.equal t x' y').run P w = .ok b w := by
          intro w
          unfold nilEq at hb
          split at hb <;> first | cases hb | skip
          all_goals (cases rx <;> cases ry)
          all_goals (show (Op.equalIn (9999 + 1) t _ _).run P w = _; generalize 9999 = m; simp [Op.equalIn, run_underlying hu])
        refine ⟨h1, ?_, ?_, ?_⟩
        · intro o
          unfold nilEq at hb
          split at hb <;> first | cases hb | skip
          all_goals (cases rx <;> cases ry)
          all_goals (cases o <;> rfl)
        · intro w
          have : binOp .eql t x' y' = (do pure (.bool (← Op.equal t x' y'))) := by
            unfold nilEq at hb
            split at hb <;> first | cases hb | skip
            all_goals (cases rx <;> cases ry)
            all_goals rfl
          rw [this]; simp [h1]
        · intro w
          have : binOp .neq t x' y' = (do pure (.bool (!(← Op.equal t x' y')))) := by
            unfold nilEq at hb
            split at hb <;> first | cases hb | skip
            all_goals (cases rx <;> cases ry)
            all_goals rfl
          rw [this]; simp [h1]
      split at h
      · rename_i b hb
        simp only [Option.some.injEq] at h; subst h
        obtain ⟨_, k2, k3, _⟩ := key b hb
        exact ⟨_, .bool _, fun w => by rw [k2]; simpa using k3 w⟩
      · rename_i b hb
        simp only [Option.some.injEq] at h; subst h
        obtain ⟨_, k2, _, k4⟩ := key b hb
        exact ⟨_, .bool _, fun w => by rw [k2]; simpa using k4 w⟩
      · cases h

theorem szOf_pos {t : TypeId} {n : Nat} (h : szOf P t = some (n + 1)) (w : World) (ad : Addr) (f : Field) (hf : f.type = t) : (fieldPlace ad f).run P w = .ok (ad.add f.offset) w := by
  simp [fieldPlace, hf, szOf_run h]

theorem all_sz {fs : List Field} (h : fs.all (fun f => (szOf P f.type).isSome) = true) : ∀ f ∈ fs, ∃ n, szOf P f.type = some n := by
  intro f hf
  have := List.all_eq_true.1 h f hf
  exact Option.isSome_iff_exists.1 this

theorem mapM_places : ∀ (fs : List Field), (∀ f ∈ fs, ∃ n, szOf P f.type = some n) → ∀ w, (fs.mapM fun f => (do pure (f.offset, ← sizeOf f.type) : Sem (Nat × Nat))).run P w = .ok (fs.map fun f => (f.offset, (szOf P f.type).getD 0)) w
  | [], _, w => by simp
  | f :: fs, h, w => by
    obtain ⟨n, hn⟩ := h f (by simp)
    have ih := mapM_places fs (fun g hg => h g (by simp [hg])) w
    simp only [List.mapM_cons, Sem.run_bind, szOf_run hn, Result.andThen_ok, Sem.run_pure, ih, List.map_cons, hn, Option.getD_some]

theorem VR.bool_eq {b : Bool} {v' : Value} (h : VR ρ (.bool b) v') : v' = .bool b := by cases h; rfl
theorem VR.int_eq {k : IntKind} {n : Int} {v' : Value} (h : VR ρ (.int k n) v') : v' = .int k n := by cases h; rfl
theorem VR.str_eq {s : ByteArray} {v' : Value} (h : VR ρ (.string s) v') : v' = .string s := by cases h; rfl
theorem VR.ptr_eq {ad : Addr} {v' : Value} (h : VR ρ (.pointer (some ad)) v') : ∃ l, ρ ad.block = some l ∧ ad.spot = none ∧ v' = .pointer (some ⟨l.g, l.off + ad.off, none⟩) := by
  cases h with
  | ptr a l h hs => exact ⟨l, h, hs, rfl⟩

/-- a new block behind box, alloc, buildSlice, makeSlice: a pointer to it -/
theorem newPtr_ok (h : HR P G base ρ M w) {t : TypeId} {cs cs' : List Value} {ad : Addr} (hc : newCells M t cs none = some (ad, M1)) (r : LR ρ cs cs') :
    ∃ ρ', ρ.le ρ' ∧ VR ρ' (.pointer (some ad)) (.pointer (some ⟨w.heap.size, 0, none⟩)) ∧ (∀ n c, VR ρ' (.slice (some ad) n c) (.slice (some ⟨w.heap.size, 0, none⟩) n c)) ∧
      HR P G base ρ' M1 (w.alloc (.cells cs'.toArray t)) ∧ Below base w (w.alloc (.cells cs'.toArray t)) := by
  obtain ⟨rfl, ρ', l, q1, q2, q3, q4, q5⟩ := newCells_exact h hc r
  refine ⟨ρ', q1, ?_, fun n c => ?_, q4, q5⟩
  · have := ptr_new (ρ' := ρ') q2 (by rw [q3]); rw [q3] at this; exact this
  · have := VR.sl (ρ := ρ') ⟨M.next, 0, none⟩ l n c c q2 rfl (fun _ => rfl) (fun s hs => by rw [q3] at hs; cases hs)
    rw [q3] at this; simpa using this

theorem opM_ok (h : HR P G base ρ M w) (o : Oper) (hE : ∀ x ∈ o.op.operands, EvOk G ρ T a x) {v : Value} (hop : opM P G o.op o.type T M = some (v, M1)) : OpRes P G base ρ w v M1 ((execOp a.eval o).run P w) := by
  have hG := h.glob
  obtain ⟨dst, op, type, pos, after, guard⟩ := o
  simp only at hop hE
  cases op <;> simp only [opM] at hop
  case move x =>
    cases hx : ev G T x with
    | none => rw [hx] at hop; cases hop
    | some u =>
      rw [hx] at hop; simp only [Option.some.injEq, Prod.mk.injEq] at hop
      obtain ⟨rfl, rfl⟩ := hop
      exact OpRes.pure_ h (hE _ (by simp [Op.operands]) _ hx)
  case assign x =>
    cases hx : ev G T x with
    | none => rw [hx] at hop; cases hop
    | some u =>
      rw [hx] at hop; simp only [Option.some.injEq, Prod.mk.injEq] at hop
      obtain ⟨rfl, rfl⟩ := hop
      exact OpRes.pure_ h (hE _ (by simp [Op.operands]) _ hx)
  case pick c x y =>
    split at hop
    · rename_i u _ hc hx hy
      simp only [Option.some.injEq, Prod.mk.injEq] at hop
      obtain ⟨rfl, rfl⟩ := hop
      have rc := (hE _ (by simp [Op.operands]) _ hc).bool_eq
      have : (execOp a.eval ⟨dst, .pick c x y, type, pos, after, guard⟩).run P w = .ok (.value (a.eval x)) w := by simp [execOp, rc, asBool]
      rw [this]
      exact OpRes.pure_ h (hE _ (by simp [Op.operands]) _ hx)
    · rename_i _ u hc hx hy
      simp only [Option.some.injEq, Prod.mk.injEq] at hop
      obtain ⟨rfl, rfl⟩ := hop
      have rc := (hE _ (by simp [Op.operands]) _ hc).bool_eq
      have : (execOp a.eval ⟨dst, .pick c x y, type, pos, after, guard⟩).run P w = .ok (.value (a.eval y)) w := by simp [execOp, rc, asBool]
      rw [this]
      exact OpRes.pure_ h (hE _ (by simp [Op.operands]) _ hy)
    · cases hop
  case alloc e =>
    cases hz : zeroOf P e with
    | none => rw [hz] at hop; cases hop
    | some z =>
      rw [hz] at hop; simp only at hop
      cases hf : isFlat z with
      | false => rw [hf] at hop; cases hop
      | true =>
        rw [hf] at hop; simp only at hop
        cases hn : newCells M e z.cells.toList none with
        | none => rw [hn] at hop; cases hop
        | some p =>
          obtain ⟨ad, M2⟩ := p
          rw [hn] at hop; simp only [Option.some.injEq, Prod.mk.injEq] at hop
          obtain ⟨rfl, rfl⟩ := hop
          obtain ⟨ρ', q1, q2, _, q4, q5⟩ := newPtr_ok h hn (isFlat_refl hf).cells
          exact ⟨_, _, ρ', .inl (by simp [execOp, Instr.alloc, zeroOf_run hz, newVar, newRow]), q1, q2, q4, q5⟩
  case box e x =>
    cases hx : ev G T x with
    | none => rw [hx] at hop; cases hop
    | some u =>
      rw [hx] at hop; simp only at hop
      cases hn : newCells M e u.cells.toList none with
      | none => rw [hn] at hop; cases hop
      | some p =>
        obtain ⟨ad, M2⟩ := p
        rw [hn] at hop; simp only [Option.some.injEq, Prod.mk.injEq] at hop
        obtain ⟨rfl, rfl⟩ := hop
        obtain ⟨ρ', q1, q2, _, q4, q5⟩ := newPtr_ok h hn (hE _ (by simp [Op.operands]) _ hx).cells
        exact ⟨_, _, ρ', .inl (by simp [execOp, Instr.box, newVar, newRow]), q1, q2, q4, q5⟩
  case build t parts =>
    split at hop
    rotate_left
    · cases hop
    rename_i z ps hz hps
    obtain ⟨p1, p2⟩ := evps_ok (fun y hy => hE y (by simpa [Op.operands] using hy)) hps
    have hparts : (parts.map fun x => (x.1, a.eval x.2)).toList = parts.toList.map fun x => (x.1, a.eval x.2) := by simp
    have e1 : ps.map (·.1) = ((parts.toList.map fun x => (x.1, a.eval x.2))).map (·.1) := by rw [p1]; simp
    have e2 : LR ρ (ps.map (·.2)) (((parts.toList.map fun x => (x.1, a.eval x.2))).map (·.2)) := by rw [List.map_map]; exact p2
    split at hop
    · rename_i fs hfl hu
      split at hop
      rotate_left
      · cases hop
      rename_i cs hfill
      cases hall : fs.toList.all fun f => (szOf P f.type).isSome with
      | false => rw [hall] at hop; cases hop
      | true =>
        rw [hall] at hop; simp only [Option.some.injEq, Prod.mk.injEq] at hop
        obtain ⟨rfl, rfl⟩ := hop
        have hm := mapM_places (P := P) fs.toList (all_sz hall) w
        obtain ⟨out, k1, k2⟩ := fill_ok hfill (isFlat_refl (ρ := ρ) hfl).cells e1 e2
        have hplace : (fun i : Nat => (fs.toList.map fun f : Field => (f.offset, (szOf P f.type).getD 0)).toArray[i]?) = placeOf P fs := by
          funext i
          simp only [List.getElem?_toArray, List.getElem?_map, placeOf]
          cases hf : fs.toList[i]? with
          | none => rfl
          | some f =>
            obtain ⟨n, hn⟩ := all_sz hall f (List.mem_of_getElem? hf)
            simp [hn]
        refine ⟨.agg out, w, ρ, .inl ?_, Ren.le.refl _, .agg _ _ (by simpa using k2), h, Below.refl _ _⟩
        have hmA : (fs.mapM fun f => (do pure (f.offset, ← sizeOf f.type) : Sem (Nat × Nat))).run P w = .ok (fs.toList.map fun f => (f.offset, (szOf P f.type).getD 0)).toArray w := by
          rw [Array.mapM_eq_mapM_toList, Sem.run_map, hm]; rfl
        simp only [execOp, Instr.build, Sem.run_bind, zeroOf_run hz, Result.andThen_ok, run_underlying hu, hmA]
        rw [hplace, hparts, k1]
        simp
    · rename_i n e hfl hu
      split at hop
      rotate_left
      · cases hop
      rename_i sz hsz
      split at hop
      rotate_left
      · cases hop
      rename_i cs hfill
      simp only [Option.some.injEq, Prod.mk.injEq] at hop
      obtain ⟨rfl, rfl⟩ := hop
      obtain ⟨out, k1, k2⟩ := fill_ok hfill (isFlat_refl (ρ := ρ) hfl).cells e1 e2
      refine ⟨.agg out, w, ρ, .inl ?_, Ren.le.refl _, .agg _ _ (by simpa using k2), h, Below.refl _ _⟩
      simp only [execOp, Instr.build, Sem.run_bind, zeroOf_run hz, Result.andThen_ok, run_underlying hu, szOf_run hsz]
      rw [hparts, k1]
      simp
    · cases hop
  case buildSlice t len parts =>
    split at hop
    rotate_left
    · cases hop
    rename_i e ps hu hps
    obtain ⟨p1, p2⟩ := evps_ok (fun y hy => hE y (by simpa [Op.operands] using hy)) hps
    have hparts : (parts.map fun x => (x.1, a.eval x.2)).toList = parts.toList.map fun x => (x.1, a.eval x.2) := by simp
    have e1 : ps.map (·.1) = ((parts.toList.map fun x => (x.1, a.eval x.2))).map (·.1) := by rw [p1]; simp
    have e2 : LR ρ (ps.map (·.2)) (((parts.toList.map fun x => (x.1, a.eval x.2))).map (·.2)) := by rw [List.map_map]; exact p2
    split at hop
    rotate_left
    · cases hop
    rename_i n z hsz hz
    cases hchk : (isFlat z && Nat.ble (len * n) 65536 && Nat.beq z.cells.size n && Nat.blt 0 n) with
    | false => rw [hchk] at hop; cases hop
    | true =>
      rw [hchk] at hop
      simp only at hop
      simp only [Bool.and_eq_true, Nat.ble_eq, Nat.blt_eq] at hchk
      obtain ⟨⟨⟨c1, c2⟩, c3⟩, c4⟩ := hchk
      have c3' := Nat.eq_of_beq_eq_true c3
      split at hop
      rotate_left
      · cases hop
      rename_i cs hfill
      cases hn : newCells M e cs none with
      | none => rw [hn] at hop; cases hop
      | some p =>
        obtain ⟨ad, M2⟩ := p
        rw [hn] at hop; simp only [Option.some.injEq, Prod.mk.injEq] at hop
        obtain ⟨rfl, rfl⟩ := hop
        have hzc : LR ρ z.cells.toList z.cells.toList := (isFlat_refl c1).cells
        have hrep : ∀ k, LR ρ (repL z.cells.toList k) (repL z.cells.toList k) := by
          intro k
          induction k with
          | zero => exact .nil
          | succ k ih => exact hzc.append ih
        have hz0 := zeros_toList z.cells len (len * n) (by omega) (by rw [c3'])
        obtain ⟨out, k1, k2⟩ := fill_ok (cs' := (Array.range (len * n)).map (z.cells[· % z.cells.size]!)) hfill (by rw [hz0]; exact hrep len) e1 e2
        obtain ⟨ρ', q1, _, q3, q4, q5⟩ := newPtr_ok h hn k2
        refine ⟨_, _, ρ', .inl ?_, q1, q3 len len, q4, q5⟩
        have hnl : ¬ (len * n > 2 ^ 24) := by omega
        by_cases q : len * n = 0
        · have hz1 : (Array.range (len * n)).map (z.cells[· % z.cells.size]!) = #[] := by simp [q]
          rw [hz1] at k1
          simp only [execOp, Instr.buildSlice, Sem.run_bind, run_underlying hu, Result.andThen_ok, szOf_run hsz, if_neg hnl, if_pos q]
          have hz2 : ∀ z2 : Array Value, (Array.range (len * n)).map (z2[· % z2.size]!) = #[] := fun z2 => by simp [q]
          simp only [Sem.run_pure, Result.andThen_ok, hz2]
          rw [hparts, k1]
          simp [newRow]
        · simp only [execOp, Instr.buildSlice, Sem.run_bind, run_underlying hu, Result.andThen_ok, szOf_run hsz, if_neg hnl, if_neg q, zeroOf_run hz, Sem.run_pure]
          rw [hparts, k1]
          simp [newRow]
  case load t x =>
    split at hop
    rotate_left
    · cases hop
    rename_i ad hx
    obtain ⟨l, hρ, hsp, he⟩ := (hE _ (by simp [Op.operands]) _ hx).ptr_eq
    split at hop
    · rename_i n hagg hsz
      cases hc : cellsAt M ad n with
      | none => rw [hc] at hop; cases hop
      | some cs =>
        rw [hc] at hop; simp only [Option.some.injEq, Prod.mk.injEq] at hop
        obtain ⟨rfl, rfl⟩ := hop
        obtain ⟨_, _, cs', k1, k2⟩ := loadCells_ok h hρ hc
        refine ⟨.agg cs'.toArray, w, ρ, .inl ?_, Ren.le.refl _, .agg _ _ (by simpa using k1), h, Below.refl _ _⟩
        simp [execOp, Instr.loadAt, he, Instr.sureAddr, loadVar, aggB_run hagg, szOf_run hsz, k2]
    · rename_i hagg
      split at hop
      · rename_i u hc
        simp only [Option.some.injEq, Prod.mk.injEq] at hop
        obtain ⟨rfl, rfl⟩ := hop
        obtain ⟨_, _, cs', k1, k2⟩ := cellsAt_ok h hρ hc
        cases k1 with
        | cons _ u' _ _ r1 r2 =>
          cases r2
          have := k2 0 u' rfl
          rw [add_none, Nat.add_zero] at this
          refine ⟨u', w, ρ, .inl ?_, Ren.le.refl _, r1, h, Below.refl _ _⟩
          simp [execOp, Instr.loadAt, he, Instr.sureAddr, loadVar, aggB_run hagg, this]
      · cases hop
    · cases hop
  case store t x y =>
    split at hop
    rotate_left
    · cases hop
    rename_i ad u n hx hy hsz
    obtain ⟨l, hρ, hsp, he⟩ := (hE _ (by simp [Op.operands]) _ hx).ptr_eq
    have ry := hE _ (by simp [Op.operands]) _ hy
    cases hb : Nat.beq u.cells.size n with
    | false => rw [hb] at hop; cases hop
    | true =>
      rw [hb] at hop; simp only at hop
      have hbn := Nat.eq_of_beq_eq_true hb
      have hcl := ry.cells
      have hsz' : (a.eval y).cells.size = n := by
        have := hcl.length; simp at this; omega
      split at hop
      · cases hop
      · rename_i c0 cr hcs
        cases hw : writeAt M ad u.cells.toList with
        | none => rw [hw] at hop; cases hop
        | some M2 =>
          rw [hw] at hop; simp only [Option.some.injEq, Prod.mk.injEq] at hop
          obtain ⟨rfl, rfl⟩ := hop
          obtain ⟨_, w1, g1, g2, g3⟩ := writeAt_ok h hρ hcl hw
          refine ⟨undef, w1, ρ, .inr ⟨?_, rfl⟩, Ren.le.refl _, VR.undef _, g2, g3⟩
          simp [execOp, Instr.storeAt, he, Instr.sureAddr, storeVar, szOf_run hsz, hsz', g1]
  case nilCheck x =>
    split at hop
    · rename_i ad hx
      simp only [Option.some.injEq, Prod.mk.injEq] at hop
      obtain ⟨rfl, rfl⟩ := hop
      have r := hE _ (by simp [Op.operands]) _ hx
      obtain ⟨l, hρ, hsp, he⟩ := r.ptr_eq
      have : (execOp a.eval ⟨dst, .nilCheck x, type, pos, after, guard⟩).run P w = .ok (.value (a.eval x)) w := by simp [execOp, he]
      rw [this]
      exact OpRes.pure_ h r
    · rename_i f xs ys hx
      simp only [Option.some.injEq, Prod.mk.injEq] at hop
      obtain ⟨rfl, rfl⟩ := hop
      have r := hE _ (by simp [Op.operands]) _ hx
      have : (execOp a.eval ⟨dst, .nilCheck x, type, pos, after, guard⟩).run P w = .ok (.value (a.eval x)) w := by
        generalize he : a.eval x = x' at r
        cases r
        simp [execOp, he]
      rw [this]
      exact OpRes.pure_ h r
    · rename_i t u hx
      simp only [Option.some.injEq, Prod.mk.injEq] at hop
      obtain ⟨rfl, rfl⟩ := hop
      have r := hE _ (by simp [Op.operands]) _ hx
      have : (execOp a.eval ⟨dst, .nilCheck x, type, pos, after, guard⟩).run P w = .ok (.value (a.eval x)) w := by
        generalize he : a.eval x = x' at r
        cases r
        simp [execOp, he]
      rw [this]
      exact OpRes.pure_ h r
    · cases hop
  case binOp op t x y yt =>
    split at hop
    rotate_left
    · cases hop
    rename_i u1 u2 hx hy
    cases hb : bin P op t x y u1 u2 with
    | none => rw [hb] at hop; cases hop
    | some u =>
      rw [hb] at hop; simp only [Option.some.injEq, Prod.mk.injEq] at hop
      obtain ⟨rfl, rfl⟩ := hop
      obtain ⟨v', r, k⟩ := bin_ok hb (hE _ (by simp [Op.operands]) _ hx) (hE _ (by simp [Op.operands]) _ hy)
      refine ⟨v', w, ρ, .inl ?_, Ren.le.refl _, r, h, Below.refl _ _⟩
      have := k w
      simp only [execOp, Sem.run_bind] at this ⊢
      rw [this]; simp
  case unOp op t x =>
    cases hx : ev G T x with
    | none => rw [hx] at hop; cases hop
    | some u =>
      rw [hx] at hop; simp only at hop
      cases hf : isFlat u with
      | false => rw [hf] at hop; cases hop
      | true =>
        rw [hf] at hop; simp only at hop
        cases hu : eval0 P (Op.unary op u) with
        | none => rw [hu] at hop; cases hop
        | some u2 =>
          rw [hu] at hop; simp only at hop
          cases hf2 : isFlat u2 with
          | false => rw [hf2] at hop; cases hop
          | true =>
            rw [hf2] at hop; simp only [Option.some.injEq, Prod.mk.injEq] at hop
            obtain ⟨rfl, rfl⟩ := hop
            have he := isFlat_eq hf (hE _ (by simp [Op.operands]) _ hx)
            refine ⟨_, w, ρ, .inl ?_, Ren.le.refl _, isFlat_refl hf2, h, Below.refl _ _⟩
            simp [execOp, he, eval0_run hu]
  case convert s d x =>
    cases hx : ev G T x with
    | none => rw [hx] at hop; cases hop
    | some u =>
      rw [hx] at hop; simp only at hop
      obtain ⟨v', w', ρ', k1, k2, k3, k4, k5⟩ := conv_ok h hop (hE _ (by simp [Op.operands]) _ hx)
      exact ⟨v', w', ρ', .inl (by simp [execOp, k1]), k2, k3, k4, k5⟩
  case makeInterface t x =>
    split at hop
    · cases hop
    · rename_i u d hni hx hu
      simp only [Option.some.injEq, Prod.mk.injEq] at hop
      obtain ⟨rfl, rfl⟩ := hop
      refine ⟨.iface t (a.eval x), w, ρ, .inl ?_, Ren.le.refl _, .iface _ _ _ (hE _ (by simp [Op.operands]) _ hx), h, Below.refl _ _⟩
      simp only [execOp, Instr.makeInterface, Sem.run_bind, run_underlying hu, Result.andThen_ok]
      cases d <;> first | rfl | exact absurd rfl (hni _ _ hx)
    · cases hop
  case makeFunc fn xs ys =>
    cases fn <;> simp only at hop <;> try (cases hop; done)
    rename_i f
    split at hop
    rotate_left
    · cases hop
    rename_i u1 u2 hx hy
    simp only [Option.some.injEq, Prod.mk.injEq] at hop
    obtain ⟨rfl, rfl⟩ := hop
    refine ⟨.func (.func f) (xs.map a.eval) (ys.map a.eval), w, ρ, .inl (by simp [execOp, Instr.makeFunc]), Ren.le.refl _, .func f _ _ _ _ ?_ ?_, h, Below.refl _ _⟩
    · simpa using evs_ok (fun y hy => hE y (by simp [Op.operands, Call.operands] at hy ⊢; simp [hy])) hx
    · simpa using evs_ok (fun y hy => hE y (by simp [Op.operands] at hy ⊢; simp [hy])) hy
  case makeMap t r =>
    have key : ∀ b M2, M.new (.map [] 0) = some (b, M2) → v = .map (some b) → M1 = M2 → OpRes P G base ρ w v M1 (.ok (.value (.map (some w.heap.size))) (w.alloc (.map #[] 0))) := by
      rintro b M2 hn rfl rfl
      have hb := (new_get hn).1
      subst hb
      obtain ⟨k1, k2, k3⟩ := h.new (l := ⟨w.heap.size, 0, 0, none⟩) hn (nw_alloc w (.map #[] 0)) rfl ⟨rfl, rfl, .nil⟩
      exact ⟨_, _, _, .inl rfl, k2, .map _ _ (Ren.add_at _ _ _) rfl, k1, k3⟩
    split at hop
    · rename_i kt et hr hu
      cases hn : M.new (.map [] 0) with
      | none => rw [hn] at hop; cases hop
      | some p =>
        obtain ⟨b, M2⟩ := p
        rw [hn] at hop; simp only [Option.some.injEq, Prod.mk.injEq] at hop
        have ro := optEv_ok (fun y hy => hE y (by simpa [Op.operands] using hy)) hr
        have : (execOp a.eval ⟨dst, .makeMap t r, type, pos, after, guard⟩).run P w = .ok (.value (.map (some w.heap.size))) (w.alloc (.map #[] 0)) := by
          generalize hrr : r.map a.eval = r' at ro
          cases ro
          simp [execOp, hrr, Instr.makeMap]
        rw [this]
        exact key b M2 hn hop.1.symm hop.2.symm
    · rename_i k n kt et hr hu
      cases hn : M.new (.map [] 0) with
      | none => rw [hn] at hop; cases hop
      | some p =>
        obtain ⟨b, M2⟩ := p
        rw [hn] at hop; simp only [Option.some.injEq, Prod.mk.injEq] at hop
        have ro := optEv_ok (fun y hy => hE y (by simpa [Op.operands] using hy)) hr
        have : (execOp a.eval ⟨dst, .makeMap t r, type, pos, after, guard⟩).run P w = .ok (.value (.map (some w.heap.size))) (w.alloc (.map #[] 0)) := by
          generalize hrr : r.map a.eval = r' at ro
          cases ro with
          | some _ v' hv =>
            cases hv
            simp [execOp, hrr, Instr.makeMap, run_underlying hu, asInt, asIntOf]
        rw [this]
        exact key b M2 hn hop.1.symm hop.2.symm
    · cases hop
  case makeSlice t l c =>
    split at hop
    rotate_left
    · cases hop
    rename_i k1 ln k2 cn e hl hc hu
    cases hi : P.info? e with
    | none => rw [hi] at hop; cases hop
    | some i =>
      rw [hi] at hop; simp only at hop
      cases hz : i.zero with
      | none => rw [hz] at hop; cases hop
      | some z =>
        rw [hz] at hop; simp only at hop
        cases hchk : (isFlat z && decide (0 ≤ ln) && decide (ln ≤ cn) && decide (cn * i.bytes ≤ 1099511627776) && decide (cn ≤ 1099511627776) && Nat.beq z.cells.size i.size && Nat.blt 0 i.size) with
        | false => rw [hchk] at hop; cases hop
        | true =>
          rw [hchk] at hop; simp only at hop
          simp only [Bool.and_eq_true, decide_eq_true_eq, Nat.blt_eq] at hchk
          obtain ⟨⟨⟨⟨⟨⟨c1, c2⟩, c3⟩, c4⟩, c5⟩, c6⟩, c7⟩ := hchk
          have c6' := Nat.eq_of_beq_eq_true c6
          cases hn : newCells M e (repL z.cells.toList cn.toNat) none with
          | none => rw [hn] at hop; cases hop
          | some p =>
            obtain ⟨ad, M2⟩ := p
            rw [hn] at hop; simp only [Option.some.injEq, Prod.mk.injEq] at hop
            obtain ⟨rfl, rfl⟩ := hop
            have el := (hE _ (by simp [Op.operands]) _ hl).int_eq
            have ec := (hE _ (by simp [Op.operands]) _ hc).int_eq
            have hzc : LR ρ z.cells.toList z.cells.toList := (isFlat_refl c1).cells
            have hrep : ∀ k, LR ρ (repL z.cells.toList k) (repL z.cells.toList k) := by
              intro k
              induction k with
              | zero => exact .nil
              | succ k ih => exact hzc.append ih
            obtain ⟨ρ', q1, _, q3, q4, q5⟩ := newPtr_ok h hn (hrep cn.toNat)
            refine ⟨_, _, ρ', .inl ?_, q1, q3 ln.toNat cn.toNat, q4, q5⟩
            have w1 : IntKind.i64.wrap ln = ln := by rw [IntKind.wrap_i64]; omega
            have w2 : IntKind.i64.wrap cn = cn := by rw [IntKind.wrap_i64]; omega
            have hbig : (i.bytes : Int) * cn ≤ 1099511627776 := by rw [Int.mul_comm]; exact c4
            have hz0 := zeros_toList z.cells cn.toNat (cn.toNat * i.size) (by omega) (by rw [c6'])
            have hti : (typeInfo e).run P w = .ok i w := by simp [typeInfo, hi]
            have hso : (sizeOf e).run P w = .ok i.size w := by simp [sizeOf, typeInfo, hi]
            have hzv : (zeroValue e).run P w = .ok z w := by simp [zeroValue, typeInfo, hi, hz]
            have hcond : (decide (cn < 0) || decide ((i.bytes : Int) * cn > 2 ^ 48) || decide (ln < 0) || decide (ln > cn)) = false := by
              simp; omega
            simp only [execOp, Instr.makeSlice, el, ec, Sem.run_bind, run_underlying hu, Result.andThen_ok, asInt, asIntOf, Sem.run_pure, hti, w1, w2, hcond, Bool.false_eq_true, if_false, run_askRoom, hso]
            by_cases q : cn.toNat * i.size = 0
            · have hz1 : repL z.cells.toList cn.toNat = [] := by rw [← hz0]; simp [q]
              have hz2 : ∀ z2 : Array Value, (Array.range (cn.toNat * i.size)).map (z2[· % z2.size]!) = #[] := fun z2 => by simp [q]
              have r0 : (Array.range 0).map (fun _ => (default : Value)) = #[] := by simp
              simp [q, hz1, newRow, r0]
            · have hz1 : (repL z.cells.toList cn.toNat).toArray = (Array.range (cn.toNat * i.size)).map (z.cells[· % z.cells.size]!) := by rw [← hz0]
              simp only [if_neg q, Sem.run_bind, hzv, Result.andThen_ok, Sem.run_pure, newRow, run_newObj, World.alloc_eq, hz1]
  case slice t x lo hi mx =>
    split at hop
    rotate_left
    · cases hop
    rename_i u ulo uhi umx hx hlo hhi hmx
    cases hs : sliceOf P M t u ulo uhi umx with
    | none => rw [hs] at hop; cases hop
    | some u2 =>
      rw [hs] at hop; simp only [Option.some.injEq, Prod.mk.injEq] at hop
      obtain ⟨rfl, rfl⟩ := hop
      obtain ⟨v', r, k⟩ := sliceOf_ok h hs (hE _ (by simp [Op.operands]) _ hx) (optEv_ok (fun y hy => hE y (by simp [Op.operands] at hy ⊢; simp [hy])) hlo) (optEv_ok (fun y hy => hE y (by simp [Op.operands] at hy ⊢; simp [hy])) hhi) (optEv_ok (fun y hy => hE y (by simp [Op.operands] at hy ⊢; simp [hy])) hmx)
      exact ⟨v', w, ρ, .inl (by simp [execOp, k]), Ren.le.refl _, r, h, Below.refl _ _⟩
  case fieldAddr s x f =>
    split at hop
    rotate_left
    · cases hop
    rename_i ad fd hx hf
    obtain ⟨l, hρ, hsp, he⟩ := (hE _ (by simp [Op.operands]) _ hx).ptr_eq
    split at hop
    rotate_left
    · cases hop
    rename_i n hsz
    simp only [Option.some.injEq, Prod.mk.injEq] at hop
    obtain ⟨rfl, rfl⟩ := hop
    unfold fieldOf at hf
    split at hf
    rotate_left
    · cases hf
    rename_i fs hu
    have hf' : fs[f]? = some fd := by simpa using hf
    rw [add_spot hsp]
    refine ⟨_, w, ρ, .inl ?_, Ren.le.refl _, .ptr ⟨ad.block, ad.off + fd.offset, none⟩ l hρ rfl, h, Below.refl _ _⟩
    simp only [execOp, Instr.fieldAt, Sem.run_bind, run_underlying hu, Result.andThen_ok, hf', he, Instr.sureAddr, Sem.run_pure, szOf_pos hsz w _ fd rfl, add_none, Nat.add_assoc]
  case field t x f =>
    split at hop
    rotate_left
    · cases hop
    rename_i cs fd hx hf
    cases hp : partL P fd.type cs fd.offset with
    | none => rw [hp] at hop; cases hop
    | some u =>
      rw [hp] at hop; simp only [Option.some.injEq, Prod.mk.injEq] at hop
      obtain ⟨rfl, rfl⟩ := hop
      unfold fieldOf at hf
      split at hf
      rotate_left
      · cases hf
      rename_i fs hu
      have hf' : fs[f]? = some fd := by simpa using hf
      have r := hE _ (by simp [Op.operands]) _ hx
      generalize he : a.eval x = x' at r
      cases r with
      | agg _ cs' hl =>
        obtain ⟨v', r', k⟩ := partL_ok hp hl
        exact ⟨v', w, ρ, .inl (by simp [execOp, Instr.field, run_underlying hu, hf', he, asAgg, k]), Ren.le.refl _, r', h, Below.refl _ _⟩
  case indexAddr t x i =>
    split at hop
    rotate_left
    · cases hop
    rename_i u1 u2 hx hi
    cases hs : indexA P t u1 u2 with
    | none => rw [hs] at hop; cases hop
    | some u =>
      rw [hs] at hop; simp only [Option.some.injEq, Prod.mk.injEq] at hop
      obtain ⟨rfl, rfl⟩ := hop
      obtain ⟨v', r, k⟩ := indexA_ok hs (hE _ (by simp [Op.operands]) _ hx) (hE _ (by simp [Op.operands]) _ hi)
      exact ⟨v', w, ρ, .inl (by simp [execOp, k]), Ren.le.refl _, r, h, Below.refl _ _⟩
  case index t x i =>
    split at hop
    rotate_left
    · cases hop
    rename_i u1 u2 hx hi
    cases hs : indexV P t u1 u2 with
    | none => rw [hs] at hop; cases hop
    | some u =>
      rw [hs] at hop; simp only [Option.some.injEq, Prod.mk.injEq] at hop
      obtain ⟨rfl, rfl⟩ := hop
      obtain ⟨v', r, k⟩ := indexV_ok hs (hE _ (by simp [Op.operands]) _ hx) (hE _ (by simp [Op.operands]) _ hi)
      exact ⟨v', w, ρ, .inl (by simp [execOp, k]), Ren.le.refl _, r, h, Below.refl _ _⟩
  case lookup t x k ok =>
    split at hop
    rotate_left
    · cases hop
    rename_i u1 u2 hx hk
    cases hs : lookupM P t u1 u2 ok M with
    | none => rw [hs] at hop; cases hop
    | some u =>
      rw [hs] at hop; simp only [Option.some.injEq, Prod.mk.injEq] at hop
      obtain ⟨rfl, rfl⟩ := hop
      obtain ⟨v', r, k⟩ := lookupM_ok h hs (hE _ (by simp [Op.operands]) _ hx) (hE _ (by simp [Op.operands]) _ hk)
      exact ⟨v', w, ρ, .inl (by simp [execOp, k]), Ren.le.refl _, r, h, Below.refl _ _⟩
  case mapUpdate t x k y =>
    split at hop
    rotate_left
    · cases hop
    rename_i u1 u2 u3 hx hk hy
    cases hs : updateM P t u1 u2 u3 M with
    | none => rw [hs] at hop; cases hop
    | some M2 =>
      rw [hs] at hop; simp only [Option.some.injEq, Prod.mk.injEq] at hop
      obtain ⟨rfl, rfl⟩ := hop
      obtain ⟨w1, k1, k2, k3⟩ := updateM_ok h hs (hE _ (by simp [Op.operands]) _ hx) (hE _ (by simp [Op.operands]) _ hk) (hE _ (by simp [Op.operands]) _ hy)
      exact ⟨undef, w1, ρ, .inr ⟨by simp [execOp, k1], rfl⟩, Ren.le.refl _, VR.undef _, k2, k3⟩
  case insert t x k y =>
    split at hop
    rotate_left
    · cases hop
    rename_i u1 u2 u3 hx hk hy
    cases hs : updateM P t u1 u2 u3 M with
    | none => rw [hs] at hop; cases hop
    | some M2 =>
      rw [hs] at hop; simp only [Option.some.injEq, Prod.mk.injEq] at hop
      obtain ⟨rfl, rfl⟩ := hop
      obtain ⟨w1, k1, k2, k3⟩ := updateM_ok h hs (hE _ (by simp [Op.operands]) _ hx) (hE _ (by simp [Op.operands]) _ hk) (hE _ (by simp [Op.operands]) _ hy)
      exact ⟨undef, w1, ρ, .inr ⟨by simp [execOp, k1], rfl⟩, Ren.le.refl _, VR.undef _, k2, k3⟩
  case range t x =>
    split at hop
    rotate_left
    · cases hop
    rename_i s hx hu
    cases hn : M.new (.siter s 0) with
    | none => rw [hn] at hop; cases hop
    | some p =>
      obtain ⟨b, M2⟩ := p
      rw [hn] at hop; simp only [Option.some.injEq, Prod.mk.injEq] at hop
      obtain ⟨rfl, rfl⟩ := hop
      have hb := (new_get hn).1
      subst hb
      obtain ⟨k1, k2, k3⟩ := h.new (l := ⟨w.heap.size, 0, 0, none⟩) hn (nw_alloc w (.stringIter s 0)) rfl ⟨rfl, rfl, rfl⟩
      refine ⟨_, _, _, .inl ?_, k2, ptr_new (Ren.add_at _ _ _) rfl, k1, k3⟩
      simp [execOp, Instr.range, run_underlying hu, (hE _ (by simp [Op.operands]) _ hx).str_eq]
  case next x b =>
    cases b <;> simp only [opM] at hop <;> try (cases hop; done)
    split at hop
    rotate_left
    · cases hop
    rename_i b hx
    split at hop
    rotate_left
    · cases hop
    rename_i s p hg
    obtain ⟨l, hρ, hsp, he⟩ := (hE _ (by simp [Op.operands]) _ hx).ptr_eq
    obtain ⟨o', h1, h2⟩ := h.get hg (by simp) hρ
    cases o' with
    | stringIter s' p' =>
      obtain ⟨h0, rfl, rfl⟩ := h2
      have hget : (getObj l.g).run P w = .ok (.stringIter s' p') w := by simp [getObj, Sem.run, h1]
      have hset : ∀ o, (setObj l.g o).run P w = .ok () { w with heap := w.heap.setIfInBounds l.g o } := fun o => by simp [setObj, Sem.run, h1]
      cases hlt : Nat.blt p' s'.size with
      | false =>
        rw [hlt] at hop; simp only [Option.some.injEq, Prod.mk.injEq] at hop
        obtain ⟨rfl, rfl⟩ := hop
        have hlt' : ¬ (p' < s'.size) := fun hh => by
          have : Nat.blt p' s'.size = true := by rw [Nat.blt_eq]; exact hh
          rw [this] at hlt; cases hlt
        refine ⟨_, w, ρ, .inl ?_, Ren.le.refl _, .tuple #[.bool false] #[.bool false] (.cons _ _ _ _ (.bool _) .nil), h, Below.refl _ _⟩
        simp [execOp, Instr.next, he, h0, hget, hlt']
      | true =>
        have hlt' : p' < s'.size := by simpa using hlt
        rw [hlt] at hop
        simp only at hop
        cases hp : M.put b (.siter s' (p' + (Utf8.decode s' p').2)) with
        | none => rw [hp] at hop; cases hop
        | some M2 =>
          rw [hp] at hop; simp only [Option.some.injEq, Prod.mk.injEq] at hop
          obtain ⟨rfl, rfl⟩ := hop
          obtain ⟨k1, k2⟩ := h.upd hp hg (by simp) hρ (upd_set h1 (.stringIter s' (p' + (Utf8.decode s' p').2))) ⟨h0, rfl, rfl⟩
          refine ⟨_, _, ρ, .inl ?_, Ren.le.refl _, .tuple #[.bool true, goInt p', .int .i32 (Utf8.decode s' p').1] #[.bool true, goInt p', .int .i32 (Utf8.decode s' p').1] (.cons _ _ _ _ (.bool _) (.cons _ _ _ _ (.int _ _) (.cons _ _ _ _ (.int _ _) .nil))), k1, k2⟩
          simp [execOp, Instr.next, he, h0, hget, hlt', hset]
    | _ => exact h2.elim
  case extract x i =>
    split at hop
    rotate_left
    · cases hop
    rename_i vs hx
    cases hv : vs.toList[i]? with
    | none => rw [hv] at hop; cases hop
    | some u =>
      rw [hv] at hop; simp only [Option.some.injEq, Prod.mk.injEq] at hop
      obtain ⟨rfl, rfl⟩ := hop
      have r := hE _ (by simp [Op.operands]) _ hx
      generalize he : a.eval x = x' at r
      cases r with
      | tuple _ vs' hl =>
        obtain ⟨u', e1, r1⟩ := hl.at_ hv
        have e1' : vs'[i]? = some u' := by simpa using e1
        exact ⟨u', w, ρ, .inl (by simp [execOp, Instr.extract, he, e1']), Ren.le.refl _, r1, h, Below.refl _ _⟩
  case call c =>
    obtain ⟨callee, args, ats⟩ := c
    cases callee <;> simp only at hop <;> try (cases hop; done)
    rename_i b
    cases hx : evs G T args.toList with
    | none => rw [hx] at hop; cases hop
    | some us =>
      rw [hx] at hop; simp only at hop
      have ra : LR ρ us (args.map a.eval).toList := by simpa using evs_ok (fun y hy => hE y (by simp [Op.operands, Call.operands] at hy ⊢; simp [hy])) hx
      obtain ⟨v', w', ρ', k1, k2, k3, k4, k5⟩ := builtinM_ok h b ats type (args.map fun | .const _ => true | _ => false) hop ra
      refine ⟨v', w', ρ', .inl ?_, k2, k3, k4, k5⟩
      simp only [execOp, resolve, invoke, Sem.run_bind, Sem.run_pure, Result.andThen_ok]
      exact k1
  all_goals (cases hop)
end
end Go.Abs
