/-
  The abstract machine and the model, operation by operation: append, copy, clear, conversions, the small builtins.
-/
import Derived.Test.YtkemccclhhnljaaAbs5
namespace Go.Abs
open Go.RowKit
set_option linter.unusedVariables false
set_option linter.unusedSimpArgs false

section
variable {P : Program} {G base : Nat} {ρ : Ren} {M M1 : Mem} {w w1 : World}

theorem extract_take (s : ByteArray) (n : Nat) : ((s.extract 0 n).data.map fun b => Value.int .u8 b.toNat).toList = (s.data.toList.take n).map fun b => Value.int .u8 b.toNat := by
  simp [ByteArray.data_extract]

/-- The source of an append or a copy. -/
theorem srcCells_ok (h : HR P G base ρ M w) {sz n m : Nat} {x x' : Value} {cs : List Value} (hs : srcCells M sz n x = some cs) (rx : VR ρ x x') (hm : srcLen x = some m) (hnm : n ≤ m) :
    cs.length = n * sz ∧ ∃ cs', LR ρ cs cs' ∧ (Builtin.firstCells sz n x').run P w = .ok cs'.toArray w ∧ (Builtin.firstCells sz n x').run P w.drew = .ok cs'.toArray w.drew := by
  unfold srcCells at hs
  cases rx <;> simp only at hs <;> try cases hs
  case str s =>
    cases hc : (Nat.beq sz 1 && Nat.ble n s.size) with
    | false => rw [hc] at hs; cases hs
    | true =>
      rw [hc] at hs
      simp only [Option.some.injEq] at hs
      subst hs
      simp only [Bool.and_eq_true, Nat.ble_eq] at hc
      have h1 : sz = 1 := Nat.eq_of_beq_eq_true hc.1
      subst h1
      have hlen : s.data.toList.length = s.size := by simp
      refine ⟨by simp; omega, _, LR.flat_map _ (fun b => .int _ _) _, ?_, ?_⟩
      · simp only [Builtin.firstCells, Sem.run_pure]
        rw [← extract_take]
      · simp only [Builtin.firstCells, Sem.run_pure]
        rw [← extract_take]
  case sl0 n' c' =>
    cases hb : Nat.beq n 0 with
    | false => rw [hb] at hs; cases hs
    | true =>
      rw [hb] at hs
      simp only [Option.some.injEq] at hs
      subst hs
      have := Nat.eq_of_beq_eq_true hb
      subst this
      exact ⟨by simp, [], .nil, by simp [Builtin.firstCells], by simp [Builtin.firstCells]⟩
  case slE a a' =>
    simp only [srcLen, Option.some.injEq] at hm
    have : n = 0 := by omega
    subst this
    simp only [Nat.beq, Option.some.injEq] at hs
    subst hs
    exact ⟨by simp, [], .nil, by simp [Builtin.firstCells, loadCells, loadCellsFrom], by simp [Builtin.firstCells, loadCells, loadCellsFrom]⟩
  case sl a l n' c c' hρ hsp hx hy =>
    cases hb : Nat.beq n 0 with
    | true =>
      rw [hb] at hs
      simp only [Option.some.injEq] at hs
      subst hs
      have := Nat.eq_of_beq_eq_true hb
      subst this
      exact ⟨by simp, [], .nil, by simp [Builtin.firstCells, loadCells, loadCellsFrom], by simp [Builtin.firstCells, loadCells, loadCellsFrom]⟩
    | false =>
      rw [hb] at hs
      simp only at hs
      obtain ⟨j1, j2, cs2, j3, j4⟩ := cellsAt_ok h hρ hs
      refine ⟨j2, cs2, j3, ?_, ?_⟩
      · have := run_loadCells_list (P := P) w ⟨l.g, l.off + a.off, none⟩ cs2 j4
        rw [← j3.length, j2] at this
        simpa [Builtin.firstCells] using this
      · have := run_loadCells_list (P := P) w.drew ⟨l.g, l.off + a.off, none⟩ cs2 (fun j v hv => by rw [World.cell?_drew]; exact j4 j v hv)
        rw [← j3.length, j2] at this
        simpa [Builtin.firstCells] using this
theorem srcLen_ok {x x' : Value} {m : Nat} (hm : srcLen x = some m) (rx : VR ρ x x') (w : World) : (Builtin.lenOf x').run P w = .ok m w := by
  cases rx <;> simp only [srcLen] at hm <;> try cases hm
  all_goals simp [Builtin.lenOf]

/-- append in place -/
theorem run_append_room (ts : Array TypeId) (ty t xt e : TypeId) (d : TypeDesc) (i : TypeInfo) (h0 : ts[0]? = some t) (h1 : ts[1]? = some xt) (hd : P.underlying xt = some d) (hni : ∀ k, d ≠ .int k)
    (ht : P.underlying t = some (.slice e)) (hi : P.info? e = some i) (ad : Option Addr) (n m c : Nat) (x' : Value) (new : List Value) (hl : (Builtin.lenOf x').run P w = .ok m w) (hf : (Builtin.firstCells i.size m x').run P w = .ok new.toArray w)
    (hnm : n + m ≤ c) : (Builtin.append_ ts ty #[.slice ad n c, x']).run P w = match ad with
      | none => .ok (.slice none (n + m) c) w
      | some a => ((storeCells (a.add (n * i.size)) new).run P w).andThen fun _ w' => .ok (.slice (some a) (n + m) c) w' := by
  have hz : (match d with | .int _ => true | _ => false) = false := by cases d <;> first | rfl | exact absurd rfl (hni _)
  cases ad with
  | none => simp [Builtin.append_, h0, h1, run_underlying ht, run_underlying hd, sizeOf, typeInfo, hi, hz, hl, hf, hnm]
  | some a => simp [Builtin.append_, h0, h1, run_underlying ht, run_underlying hd, sizeOf, typeInfo, hi, hz, hl, hf, hnm]

/-- append into a new block -/
theorem run_append_new (ts : Array TypeId) (ty t xt e : TypeId) (d : TypeDesc) (i : TypeInfo) (z : Value) (h0 : ts[0]? = some t) (h1 : ts[1]? = some xt) (hd : P.underlying xt = some d) (hni : ∀ k, d ≠ .int k)
    (ht : P.underlying t = some (.slice e)) (hi : P.info? e = some i) (hiz : i.zero = some z) (ad : Option Addr) (n m c : Nat) (x' : Value) (old new : List Value) (hl : (Builtin.lenOf x').run P w = .ok m w)
    (ho : (Builtin.firstCells i.size n (.slice ad n c)).run P w.drew = .ok old.toArray w.drew) (hf : (Builtin.firstCells i.size m x').run P w.drew = .ok new.toArray w.drew)
    (hnm : c < n + m) (hb : (n + m) * i.bytes ≤ 1099511627776) (hs : n + m ≤ 1099511627776) : ∃ cap, n + m ≤ cap ∧ (Builtin.append_ ts ty #[.slice ad n c, x']).run P w =
      .ok (.slice (some ⟨w.heap.size, 0, none⟩) (n + m) cap) (w.drew.alloc (.cells (old.toArray ++ new.toArray ++ Builtin.zeroCells z.cells (cap - (n + m))) e)) := by
  have hz : (match d with | .int _ => true | _ => false) = false := by cases d <;> first | rfl | exact absurd rfl (hni _)
  have hn : ¬ (n + m ≤ c) := by omega
  have h63 : ¬ (9223372036854775807 < ((n : Int) + (m : Int))) := by omega
  have h48 : ¬ (281474976710656 < Builtin.nextslicecap (n + m) c * i.bytes) := by
    have := growslice_fits (bytes := i.bytes) hnm (by omega)
    omega
  refine ⟨grownCap w (n + m) c e, ?_, ?_⟩
  · simp only [grownCap, Question.cut]; omega
  · simp [Builtin.append_, h0, h1, run_underlying ht, run_underlying hd, sizeOf, typeInfo, zeroValue, hi, hiz, hz, hl, hf, ho, hn, h63, h48, Question.forced, newRow, grownCap]
    congr 2
    apply Array.ext'
    simp [List.append_assoc]

theorem slice_new {ρ' : Ren} {b n c : Nat} {l : Loc} {sz : Nat} (hl : ρ' b = some l) (h0 : l.off = 0) (hx : l.x = some sz) (hn : n ≤ c) (hc : c * sz ≤ l.n) : VR ρ' (.slice (some ⟨b, 0, none⟩) n n) (.slice (some ⟨l.g, 0, none⟩) n c) := by
  have := VR.sl (ρ := ρ') ⟨b, 0, none⟩ l n n c hl rfl (fun h => by rw [hx] at h; cases h) (fun s hs => by rw [hx] at hs; injection hs with hs; subst hs; exact ⟨hn, by simp [h0]; exact hc⟩)
  simpa [h0] using this

/-- the new block of an append: old, new, zeros -/
theorem append_block (h : HR P G base ρ M w) {e : TypeId} {i : TypeInfo} {z : Value} (hiz : i.zero = some z) (hzs : z.cells.size = i.size) {old old' new new' : List Value} {n m cap : Nat} {a : Addr}
    (ro : LR ρ old old') (rn : LR ρ new new') (hlo : old.length = n * i.size) (hln : new.length = m * i.size) (hcap : n + m ≤ cap) (hc : newCells M e (old ++ new) (some i.size) = some (a, M1)) :
    ∃ v' ρ', ρ.le ρ' ∧ VR ρ' (.slice (some a) (n + m) (n + m)) v' ∧ v' = .slice (some ⟨w.heap.size, 0, none⟩) (n + m) cap ∧
      HR P G base ρ' M1 (w.drew.alloc (.cells (old'.toArray ++ new'.toArray ++ Builtin.zeroCells z.cells (cap - (n + m))) e)) ∧ Below base w (w.drew.alloc (.cells (old'.toArray ++ new'.toArray ++ Builtin.zeroCells z.cells (cap - (n + m))) e)) := by
  have l1 := ro.length
  have l2 := rn.length
  have hsz : (old'.toArray ++ new'.toArray ++ Builtin.zeroCells z.cells (cap - (n + m))).size = cap * i.size := by
    simp only [Array.size_append, List.size_toArray, size_zeroCells, hzs]
    rw [← l1, ← l2, hlo, hln, ← Nat.add_mul, ← Nat.add_mul]
    congr 1; omega
  obtain ⟨rfl, ρ', l, q1, q2, q3, q4, q5⟩ := newCells_ok h.drew hc (nw_alloc w.drew (.cells (old'.toArray ++ new'.toArray ++ Builtin.zeroCells z.cells (cap - (n + m))) e))
    (by simp only [Array.size_append, List.size_toArray, List.length_append]; omega)
    (fun j v hv => by
      obtain ⟨v', e1, r⟩ := (ro.append rn).at_ hv
      have hj : j < (old' ++ new').length := (List.getElem?_eq_some_iff.1 e1).1
      refine ⟨v', ?_, r⟩
      rw [Array.getElem?_append_left (by simpa using hj)]
      simpa using e1)
    (fun j _ hh => by simp at hh)
  refine ⟨_, ρ', q1, ?_, rfl, q4, ⟨q5.os, q5.tape, q5.output, q5.size, q5.block⟩⟩
  have := slice_new (ρ' := ρ') (n := n + m) (c := cap) (sz := i.size) q2 (by rw [q3]) (by rw [q3]) hcap (by rw [q3, hsz]; exact Nat.le_refl _)
  rw [q3] at this
  exact this

theorem appendM_ok (h : HR P G base ρ M w) (ts : Array TypeId) (ty : TypeId) {s s' x x' : Value} {v : Value} (hs : appendM P ts.toList s x M = some (v, M1)) (rs : VR ρ s s') (rx : VR ρ x x') :
    ∃ v' w' ρ', (Builtin.append_ ts ty #[s', x']).run P w = .ok v' w' ∧ ρ.le ρ' ∧ VR ρ' v v' ∧ HR P G base ρ' M1 w' ∧ Below base w w' := by
  unfold appendM at hs
  split at hs
  rotate_left
  · cases hs
  rename_i t xt rest hts
  have h0 : ts[0]? = some t := by
    rw [← Array.getElem?_toList, hts]; rfl
  have h1 : ts[1]? = some xt := by
    rw [← Array.getElem?_toList, hts]; rfl
  split at hs
  · cases hs
  · cases hs
  rename_i d hni hd
  split at hs
  rotate_left
  · cases hs
  rename_i e base' n c m ht hm
  cases hi : P.info? e with
  | none => simp [hi] at hs
  | some i =>
    simp only [hi] at hs
    cases hsrc : srcCells M i.size m x with
    | none => simp [hsrc] at hs
    | some new =>
      cases hchk : (Nat.beq ((i.zero.map fun z => z.cells.size).getD 0) i.size && Nat.blt 0 i.size && Nat.ble ((n + m) * i.bytes) 1099511627776 && Nat.ble (n + m) 1099511627776) with
      | false => simp [hsrc, hchk] at hs
      | true =>
        simp only [hsrc, hchk] at hs
        simp only [Bool.and_eq_true, Nat.ble_eq, Nat.blt_eq] at hchk
        obtain ⟨⟨⟨hc1, hc2⟩, hc3⟩, hc4⟩ := hchk
        have hc1' := Nat.eq_of_beq_eq_true hc1
        obtain ⟨z, hiz, hzs⟩ : ∃ z, i.zero = some z ∧ z.cells.size = i.size := by
          cases hz : i.zero with
          | none => rw [hz] at hc1'; simp at hc1'; omega
          | some z => rw [hz] at hc1'; exact ⟨z, rfl, by simpa using hc1'⟩
        have hnikf : ∀ k, d ≠ .int k := fun k hk => hni k hk
        obtain ⟨hnl, new', rn, f1, f2⟩ := srcCells_ok h hsrc rx hm (Nat.le_refl _)
        have hlen := srcLen_ok (P := P) hm rx w
        cases hroom : Nat.ble (n + m) c with
        | true =>
          have hnm : n + m ≤ c := Nat.le_of_ble_eq_true hroom
          rw [hroom] at hs
          simp only at hs
          cases rs with
          | sl0 n c =>
            simp only [Option.some.injEq, Prod.mk.injEq] at hs
            obtain ⟨rfl, rfl⟩ := hs
            have := run_append_room (w := w) ts ty t xt e d i h0 h1 hd hnikf ht hi none n m c x' new' hlen f1 hnm
            exact ⟨_, w, ρ, this, Ren.le.refl ρ, .sl0 _ _, h, Below.refl _ _⟩
          | slE a a' =>
            have hm0 : m = 0 := by omega
            subst hm0
            have hnew : new = [] := List.eq_nil_of_length_eq_zero (by simpa using hnl)
            subst hnew
            have hnew' : new' = [] := by cases rn; rfl
            subst hnew'
            simp only [Option.some.injEq, Prod.mk.injEq] at hs
            obtain ⟨rfl, rfl⟩ := hs
            have := run_append_room (w := w) ts ty t xt e d i h0 h1 hd hnikf ht hi (some a') 0 0 0 x' [] hlen f1 hnm
            simp only [storeCells, Sem.run_pure, Result.andThen_ok] at this
            exact ⟨_, w, ρ, this, Ren.le.refl ρ, .slE _ _, h, Below.refl _ _⟩
          | sl a l n c c' hρ hsp hx hy =>
            have hcc : c ≤ c' := by
              cases hxx : l.x with
              | none => rw [hx hxx]; omega
              | some s => exact (hy s hxx).1
            have hroom' := run_append_room (w := w) ts ty t xt e d i h0 h1 hd hnikf ht hi (some ⟨l.g, l.off + a.off, none⟩) n m c' x' new' hlen f1 (by omega)
            simp only at hroom'
            have hres : VR ρ (.slice (some a) (n + m) c) (.slice (some ⟨l.g, l.off + a.off, none⟩) (n + m) c') := .sl a l _ _ _ hρ hsp hx hy
            cases new with
            | nil =>
              simp only [Option.some.injEq, Prod.mk.injEq] at hs
              obtain ⟨rfl, rfl⟩ := hs
              have hnew' : new' = [] := by cases rn; rfl
              subst hnew'
              simp only [storeCells, Sem.run_pure, Result.andThen_ok] at hroom'
              exact ⟨_, w, ρ, hroom', Ren.le.refl ρ, hres, h, Below.refl _ _⟩
            | cons v0 vs =>
              simp only at hs
              cases hw : writeAt M (a.add (n * i.size)) (v0 :: vs) with
              | none => rw [hw] at hs; cases hs
              | some M2 =>
                rw [hw] at hs
                simp only [Option.some.injEq, Prod.mk.injEq] at hs
                obtain ⟨rfl, rfl⟩ := hs
                rw [add_spot hsp] at hw
                obtain ⟨_, w1, g1, g2, g3⟩ := writeAt_ok (a := ⟨a.block, a.off + n * i.size, none⟩) h hρ rn hw
                rw [add_none] at hroom'
                simp only at g1
                rw [← Nat.add_assoc] at g1
                rw [g1] at hroom'
                simp only [Result.andThen_ok] at hroom'
                exact ⟨_, w1, ρ, hroom', Ren.le.refl ρ, hres, g2, g3⟩
        | false =>
          have hnm : c < n + m := by
            have : ¬ (n + m ≤ c) := fun hh => by rw [Nat.ble_eq_true_of_le hh] at hroom; cases hroom
            omega
          rw [hroom] at hs
          simp only at hs
          cases rs with
          | sl0 n c =>
            cases hb : Nat.beq n 0 with
            | false => rw [hb] at hs; cases hn : newCells M e new (some i.size) <;> simp [hn] at hs
            | true =>
              have hn0 := Nat.eq_of_beq_eq_true hb
              subst hn0
              rw [hb] at hs
              cases hn : newCells M e new (some i.size) with
              | none => rw [hn] at hs; cases hs
              | some p =>
                obtain ⟨a, M2⟩ := p
                rw [hn] at hs
                simp only [Option.some.injEq, Prod.mk.injEq] at hs
                obtain ⟨rfl, rfl⟩ := hs
                obtain ⟨cap, k1, k2⟩ := run_append_new (w := w) ts ty t xt e d i z h0 h1 hd hnikf ht hi hiz none 0 m c x' [] new' hlen (by simp [Builtin.firstCells]) f2 hnm hc3 hc4
                obtain ⟨v', ρ', q1, q2, q3, q4, q5⟩ := append_block (n := 0) h hiz hzs .nil rn (by simp) hnl k1 (by simpa using hn)
                subst q3
                refine ⟨_, _, ρ', k2, q1, ?_, q4, q5⟩
                simpa using q2
          | slE a a' =>
            have hold : ∀ ww : World, (Builtin.firstCells i.size 0 (.slice (some a') 0 0)).run P ww = .ok (([] : List Value).toArray) ww := fun ww => by simp [Builtin.firstCells, loadCells, loadCellsFrom]
            obtain ⟨cap, k1, k2⟩ := run_append_new (w := w) ts ty t xt e d i z h0 h1 hd hnikf ht hi hiz (some a') 0 m 0 x' [] new' hlen (hold _) f2 hnm hc3 hc4
            simp only at hs
            cases hca : cellsAt M a (0 * i.size) with
            | none => simp only [hca, reduceCtorEq] at hs
            | some old =>
              have hold0 : old = [] := by
                unfold cellsAt at hca
                split at hca
                · cases hca
                · split at hca
                  · exact List.eq_nil_of_length_eq_zero (by simpa using (cut_get hca).2.1)
                  · cases hca
              subst hold0
              cases hg : M.get a.block with
              | none => simp only [hca, hg, reduceCtorEq] at hs
              | some o =>
                cases o with
                | cells cc t' xx =>
                  simp only [hca, hg] at hs
                  cases xx with
                  | none =>
                    simp only at hs
                    cases hn : newCells M e ([] ++ new) (some i.size) with
                    | none => rw [hn] at hs; cases hs
                    | some p =>
                      obtain ⟨a2, M2⟩ := p
                      rw [hn] at hs
                      simp only [Option.some.injEq, Prod.mk.injEq] at hs
                      obtain ⟨rfl, rfl⟩ := hs
                      obtain ⟨v', ρ', q1, q2, q3, q4, q5⟩ := append_block (n := 0) h hiz hzs .nil rn (by simp) hnl k1 hn
                      subst q3
                      exact ⟨_, _, ρ', k2, q1, q2, q4, q5⟩
                  | some sz =>
                    simp only at hs
                    cases hb : (Nat.beq t' e && Nat.beq sz i.size && new.all Value.oneCell') with
                    | false => rw [hb] at hs; cases hp : M.put a.block .dead <;> simp [hp] at hs
                    | true =>
                      rw [hb] at hs
                      cases hp : M.put a.block .dead with
                      | none => rw [hp] at hs; cases hs
                      | some M0 =>
                        rw [hp] at hs
                        simp only at hs
                        cases hn : newCells M0 e ([] ++ new) (some i.size) with
                        | none => rw [hn] at hs; cases hs
                        | some p =>
                          obtain ⟨a2, M2⟩ := p
                          rw [hn] at hs
                          simp only [Option.some.injEq, Prod.mk.injEq] at hs
                          obtain ⟨rfl, rfl⟩ := hs
                          obtain ⟨v', ρ', q1, q2, q3, q4, q5⟩ := append_block (n := 0) (h.kill hp) hiz hzs .nil rn (by simp) hnl k1 hn
                          subst q3
                          exact ⟨_, _, ρ', k2, q1, q2, q4, q5⟩
                | _ => simp only [hca, hg, reduceCtorEq] at hs
          | sl a l n c c' hρ hsp hx hy =>
            simp only at hs
            cases hca : cellsAt M a (n * i.size) with
            | none => simp [hca] at hs
            | some old =>
              obtain ⟨_, hlo, old', ro, hcell⟩ := cellsAt_ok h hρ hca
              have hold : ∀ k, (Builtin.firstCells i.size n (.slice (some ⟨l.g, l.off + a.off, none⟩) n k)).run P w.drew = .ok old'.toArray w.drew := fun k => by
                have := run_loadCells_list (P := P) w.drew ⟨l.g, l.off + a.off, none⟩ old' (fun j v hv => by rw [World.cell?_drew]; exact hcell j v hv)
                rw [← ro.length, hlo] at this
                simpa [Builtin.firstCells] using this
              cases hg : M.get a.block with
              | none => simp [hca, hg] at hs
              | some o =>
                cases o with
                | cells cc t' xx =>
                  simp only [hca, hg] at hs
                  obtain ⟨o', hb1, hor⟩ := h.get hg (by simp) hρ
                  cases o' with
                  | cells c2 t2 fr =>
                    obtain ⟨ht2, hlx, hsz2, hfit2, hpt2, hfr2⟩ := hor
                    cases xx with
                    | none =>
                      have hc' := hx hlx
                      subst hc'
                      obtain ⟨cap, k1, k2⟩ := run_append_new (w := w) ts ty t xt e d i z h0 h1 hd hnikf ht hi hiz (some ⟨l.g, l.off + a.off, none⟩) n m c' x' old' new' hlen (hold _) f2 hnm hc3 hc4
                      simp only at hs
                      cases hn : newCells M e (old ++ new) (some i.size) with
                      | none => rw [hn] at hs; cases hs
                      | some p =>
                        obtain ⟨a2, M2⟩ := p
                        rw [hn] at hs
                        simp only [Option.some.injEq, Prod.mk.injEq] at hs
                        obtain ⟨rfl, rfl⟩ := hs
                        obtain ⟨v', ρ', q1, q2, q3, q4, q5⟩ := append_block h hiz hzs ro rn hlo hnl k1 hn
                        subst q3
                        exact ⟨_, _, ρ', k2, q1, q2, q4, q5⟩
                    | some sz =>
                      simp only at hs
                      cases hb : (Nat.beq t' e && Nat.beq sz i.size && new.all Value.oneCell') with
                      | false => rw [hb] at hs; cases hp : M.put a.block .dead <;> simp [hp] at hs
                      | true =>
                        rw [hb] at hs
                        simp only [Bool.and_eq_true] at hb
                        have hte := Nat.eq_of_beq_eq_true hb.1.1
                        have hse := Nat.eq_of_beq_eq_true hb.1.2
                        subst hte hse
                        obtain ⟨hcc, hfitc⟩ := hy _ hlx
                        cases hp : M.put a.block .dead with
                        | none => rw [hp] at hs; cases hs
                        | some M0 =>
                          rw [hp] at hs
                          simp only at hs
                          cases hn : newCells M0 t' (old ++ new) (some i.size) with
                          | none => rw [hn] at hs; cases hs
                          | some p =>
                            obtain ⟨a2, M2⟩ := p
                            rw [hn] at hs
                            simp only [Option.some.injEq, Prod.mk.injEq] at hs
                            obtain ⟨rfl, rfl⟩ := hs
                            by_cases hgrow : c' < n + m
                            · obtain ⟨cap, k1, k2⟩ := run_append_new (w := w) ts ty t xt t' d i z h0 h1 hd hnikf ht hi hiz (some ⟨l.g, l.off + a.off, none⟩) n m c' x' old' new' hlen (hold _) f2 hgrow hc3 hc4
                              obtain ⟨v', ρ', q1, q2, q3, q4, q5⟩ := append_block (h.kill hp) hiz hzs ro rn hlo hnl k1 hn
                              subst q3
                              exact ⟨_, _, ρ', k2, q1, q2, q4, q5⟩
                            · -- in place, in the real memory alone
                              have hroom' := run_append_room (w := w) ts ty t xt t' d i h0 h1 hd hnikf ht hi (some ⟨l.g, l.off + a.off, none⟩) n m c' x' new' hlen f1 (by omega)
                              simp only at hroom'
                              rw [add_none] at hroom'
                              have hln' := rn.length
                              have hlo' := ro.length
                              have hmulc : (n + m) * i.size ≤ c' * i.size := Nat.mul_le_mul_right _ (by omega)
                              have hmuls : (n + m) * i.size = n * i.size + m * i.size := Nat.add_mul _ _ _
                              obtain ⟨w1, c3, g1, g2, g3, g4⟩ := run_storeCells_upd P l.g (l.off + a.off + n * i.size) new' 0 w c2 t2 fr hb1 (by omega) (by rw [hsz2]; exact hfr2) (rn.ones hb.2)
                              rw [g1] at hroom'
                              simp only [Result.andThen_ok] at hroom'
                              have hput := put_get hp h.small
                              unfold newCells at hn
                              cases hnn : M0.new (.cells (old ++ new) t' (some i.size)) with
                              | none => rw [hnn] at hn; cases hn
                              | some q =>
                                obtain ⟨b2, M3⟩ := q
                                rw [hnn] at hn
                                simp only [Option.some.injEq, Prod.mk.injEq] at hn
                                obtain ⟨rfl, rfl⟩ := hn
                                have hbg : base ≤ l.g := h.base_ a.block l hput.2.2.1 hρ
                                have hk := h.kill hp
                                have hle : ρ.le (ρ.add b2 ⟨l.g, l.off + a.off, l.n, some i.size⟩) := by
                                  have := (new_get hnn).1
                                  subst this
                                  exact Ren.add_le _ (hk.fresh _ (Nat.le_refl _))
                                have ho : OR P (ρ.add b2 ⟨l.g, l.off + a.off, l.n, some i.size⟩) ⟨l.g, l.off + a.off, l.n, some i.size⟩ (.cells (old ++ new) t' (some i.size)) (.cells c3 t2 fr) := by
                                  refine ⟨ht2, rfl, by rw [g3, hsz2], by simp only [List.length_append]; omega, fun j v hv => ?_, hfr2⟩
                                  rw [g4]
                                  simp only [Nat.add_zero]
                                  by_cases q : j < n * i.size
                                  · rw [List.getElem?_append_left (by omega)] at hv
                                    rw [if_neg (by omega)]
                                    obtain ⟨v', e1, r1⟩ := ro.at_ hv
                                    have := hcell j v' e1
                                    rw [add_none, cell_of_block hb1] at this
                                    exact ⟨v', this, r1.mono hle⟩
                                  · rw [List.getElem?_append_right (by omega)] at hv
                                    have hj : j - old.length < new.length := (List.getElem?_eq_some_iff.1 hv).1
                                    rw [if_pos (by omega)]
                                    obtain ⟨v', e1, r1⟩ := rn.at_ hv
                                    refine ⟨v', ?_, r1.mono hle⟩
                                    rw [← e1]; congr 1; omega
                                obtain ⟨q1, q2⟩ := hk.put_new (l := ⟨l.g, l.off + a.off, l.n, some i.size⟩) hnn (g2.below hbg) hbg (by rw [g2.size]; exact h.lt a.block l hρ) g2.at_ (fun i hi _ => g2.ne i hi) (by
                                  intro j oj lj hj hjd hlj hgg
                                  have hjb : j ≠ a.block := by
                                    intro e1
                                    subst e1
                                    rw [hput.2.2.2.2.1] at hj
                                    injection hj with hj
                                    exact hjd hj.symm
                                  rw [hput.2.2.2.2.2 j hjb] at hj
                                  exact hjb (h.inj j a.block oj _ lj l hj hjd hg (by simp) hlj hρ hgg)) ho
                                refine ⟨_, w1, _, hroom', q2, ?_, q1, g2.below hbg⟩
                                have := VR.sl (ρ := ρ.add b2 ⟨l.g, l.off + a.off, l.n, some i.size⟩) ⟨b2, 0, none⟩ ⟨l.g, l.off + a.off, l.n, some i.size⟩ (n + m) (n + m) c' (Ren.add_at _ _ _) rfl (fun hh => by cases hh)
                                  (fun s hs' => by injection hs' with hs'; subst hs'; exact ⟨by omega, by simpa using hfitc⟩)
                                simpa using this
                  | _ => exact hor.elim
                | _ => simp [hca, hg] at hs
          | _ => simp at ht
end
end Go.Abs
