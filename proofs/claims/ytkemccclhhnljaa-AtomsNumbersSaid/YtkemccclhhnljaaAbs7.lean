/-
  The abstract machine and the model, operation by operation: copy, clear, conversions, the small builtins; then any operation that is no call.
-/
import Derived.Test.YtkemccclhhnljaaAbs6
import Derived.WideLaws
namespace Go.Abs
open Go.RowKit
set_option linter.unusedVariables false
set_option linter.unusedSimpArgs false

section
variable {P : Program} {G base : Nat} {ρ : Ren} {M M1 : Mem} {w w1 : World}

theorem copyM_ok (h : HR P G base ρ M w) (ts : Array TypeId) (ty : TypeId) {t : TypeId} (ht0 : ts[0]? = some t) {s s' x x' : Value} {v : Value} (hs : copyM P t s x M = some (v, M1)) (rs : VR ρ s s') (rx : VR ρ x x') :
    ∃ v' w', (Builtin.copy_ ts ty #[s', x']).run P w = .ok v' w' ∧ VR ρ v v' ∧ HR P G base ρ M1 w' ∧ Below base w w' := by
  unfold copyM at hs
  split at hs
  rotate_left
  · cases hs
  rename_i e base' n c m ht hm
  split at hs
  rotate_left
  · cases hs
  rename_i sz cs hsz hsrc
  rw [hsz] at hsrc
  simp only [Option.getD_some] at hsrc
  obtain ⟨hnl, cs', rn, f1, f2⟩ := srcCells_ok h hsrc rx hm (Nat.min_le_left _ _)
  have hlen := srcLen_ok (P := P) hm rx w
  have hrun : ∀ (ad : Option Addr) (k : Nat), (Builtin.copy_ ts ty #[.slice ad n k, x']).run P w = match ad with
      | none => .ok (goInt (Nat.min m n)) w
      | some a => ((storeCells a cs').run P w).andThen fun _ w' => .ok (goInt (Nat.min m n)) w' := by
    intro ad k
    cases ad <;> simp [Builtin.copy_, ht0, run_underlying ht, szOf_run hsz, hlen, f1]
  cases rs with
  | sl0 n c =>
    simp only [Option.some.injEq, Prod.mk.injEq] at hs
    obtain ⟨rfl, rfl⟩ := hs
    exact ⟨_, w, hrun none c, .int _ _, h, Below.refl _ _⟩
  | slE a a' =>
    have hcs : cs = [] := List.eq_nil_of_length_eq_zero (by rw [hnl]; simp [Nat.min_def])
    subst hcs
    have hcs' : cs' = [] := by cases rn; rfl
    subst hcs'
    simp only [Option.some.injEq, Prod.mk.injEq] at hs
    obtain ⟨rfl, rfl⟩ := hs
    have := hrun (some a') 0
    simp only [storeCells, Sem.run_pure, Result.andThen_ok] at this
    exact ⟨_, w, this, .int _ _, h, Below.refl _ _⟩
  | sl a l n c c' hρ hsp hx hy =>
    have hr := hrun (some ⟨l.g, l.off + a.off, none⟩) c'
    simp only at hr
    cases cs with
    | nil =>
      have hcs' : cs' = [] := by cases rn; rfl
      subst hcs'
      simp only [Option.some.injEq, Prod.mk.injEq] at hs
      obtain ⟨rfl, rfl⟩ := hs
      simp only [storeCells, Sem.run_pure, Result.andThen_ok] at hr
      exact ⟨_, w, hr, .int _ _, h, Below.refl _ _⟩
    | cons v0 vs =>
      simp only at hs
      cases hw : writeAt M a (v0 :: vs) with
      | none => rw [hw] at hs; cases hs
      | some M2 =>
        rw [hw] at hs
        simp only [Option.some.injEq, Prod.mk.injEq] at hs
        obtain ⟨rfl, rfl⟩ := hs
        obtain ⟨_, w1, g1, g2, g3⟩ := writeAt_ok h hρ rn hw
        rw [g1] at hr
        simp only [Result.andThen_ok] at hr
        exact ⟨_, w1, hr, .int _ _, g2, g3⟩

theorem clearM_ok (h : HR P G base ρ M w) (ts : Array TypeId) (ty : TypeId) {t : TypeId} (ht0 : ts[0]? = some t) {x x' : Value} (hs : clearM P t x M = some M1) (rx : VR ρ x x') :
    ∃ w', (Builtin.clear_ ts ty #[x']).run P w = .ok (.tuple #[]) w' ∧ HR P G base ρ M1 w' ∧ Below base w w' := by
  unfold clearM at hs
  cases hu : P.underlying t with
  | none => simp only [hu] at hs; split at hs <;> cases hs
  | some d =>
    simp only [hu] at hs
    cases rx <;> try (simp at hs; done)
    case map0 =>
      simp only [Option.some.injEq] at hs
      subst hs
      refine ⟨w, ?_, h, Below.refl _ _⟩
      simp [Builtin.clear_, ht0, run_underlying hu]
    case sl0 n c =>
      simp only [Option.some.injEq] at hs
      subst hs
      refine ⟨w, ?_, h, Below.refl _ _⟩
      simp [Builtin.clear_, ht0, run_underlying hu]
    case slE a a' =>
      simp only [Option.some.injEq] at hs
      subst hs
      refine ⟨w, ?_, h, Below.refl _ _⟩
      simp [Builtin.clear_, ht0, run_underlying hu]
    case map r l hρ h0 =>
      simp only at hs
      cases hg : M.get r with
      | none => rw [hg] at hs; cases hs
      | some o =>
        cases o with
        | map es clk =>
          simp only [hg] at hs
          obtain ⟨o', h1, h2⟩ := h.get hg (by simp) hρ
          cases o' with
          | map es' clk' =>
            obtain ⟨_, rfl, _⟩ := h2
            obtain ⟨k1, k2⟩ := h.upd hs hg (by simp) hρ (upd_set h1 _) (show OR P ρ l (.map [] clk') (.map #[] clk') from ⟨h0, rfl, .nil⟩)
            refine ⟨_, ?_, k1, k2⟩
            simp [Builtin.clear_, ht0, run_underlying hu, getMap h1, setMap _ h1]
          | _ => exact h2.elim
        | _ => simp [hg] at hs
    case sl a l n c c' hρ hsp hx hy =>
      cases n with
      | zero =>
        simp only [Option.some.injEq] at hs
        subst hs
        refine ⟨w, ?_, h, Below.refl _ _⟩
        simp [Builtin.clear_, ht0, run_underlying hu]
      | succ n =>
        cases d with
        | slice e =>
          simp only at hs
          cases hz : zeroOf P e with
          | none => rw [hz] at hs; cases hs
          | some z =>
            rw [hz] at hs
            simp only at hs
            cases hc : (isFlat z && Nat.blt 0 z.cells.size) with
            | false => rw [hc] at hs; cases hs
            | true =>
              rw [hc] at hs
              simp only [Bool.and_eq_true, Nat.blt_eq] at hc hs
              have hzc : LR ρ z.cells.toList z.cells.toList := (isFlat_refl hc.1).cells
              have hrep : ∀ k, LR ρ (repL z.cells.toList k) (repL z.cells.toList k) := by
                intro k
                induction k with
                | zero => exact .nil
                | succ k ih => exact hzc.append ih
              obtain ⟨_, w1, g1, g2, g3⟩ := writeAt_ok h hρ (hrep (n + 1)) hs
              refine ⟨w1, ?_, g2, g3⟩
              have hzt := zeros_toList z.cells (n + 1) ((n + 1) * z.cells.size) hc.2 rfl
              have hzt' : (Builtin.zeroCells z.cells (n + 1)).toList = repL z.cells.toList (n + 1) := hzt
              simp [Builtin.clear_, ht0, run_underlying hu, zeroOf_run hz, hzt', g1]
        | _ => simp at hs

theorem bytesOfCells_ok : ∀ {cs : List Value} {l : List UInt8}, bytesOfCells cs = some l → ∃ xs : List Int, cs = xs.map (Value.int .u8) ∧ l = xs.map fun n => UInt8.ofNat n.toNat
  | [], l, h => by simp [bytesOfCells] at h; subst h; exact ⟨[], rfl, rfl⟩
  | c :: cs, l, h => by
    unfold bytesOfCells at h
    split at h
    · cases ‹_ :: _ = []›
    · rename_i n r heq
      injection heq with h1 h2
      subst h1 h2
      cases hr : bytesOfCells cs with
      | none => rw [hr] at h; cases h
      | some l' =>
        rw [hr] at h
        simp only [Option.some.injEq] at h
        subst h
        obtain ⟨xs, e1, e2⟩ := bytesOfCells_ok hr
        exact ⟨n :: xs, by simp [e1], by simp [e2]⟩
    · cases h

theorem ints_same {k : IntKind} : ∀ {xs : List Int} {ys : List Value}, LR ρ (xs.map (Value.int k)) ys → ys = xs.map (Value.int k)
  | [], ys, h => by cases h; rfl
  | x :: xs, ys, h => by
    cases h with
    | cons v v' vs vs' h1 h2 => cases h1; rw [ints_same h2]; rfl

theorem upd_freeze {w : World} {g : Nat} {c : Array Value} {t : TypeId} (h : w.heap[g]? = some (.cells c t (0, 0))) (n : Nat) : Upd w (w.freeze ⟨g, n, none⟩ 1) g (.cells c t (n, n + 1)) := by
  refine ⟨rfl, rfl, rfl, by simp [World.freeze], ?_, fun i hi => ?_⟩
  · simp [World.freeze, Array.getElem?_modify, h]
  · simp [World.freeze, Array.getElem?_modify, Ne.symm hi]

theorem run_strBytes (e : TypeId) (s : ByteArray) : ∃ cap w1 fr, s.size ≤ cap ∧ (Conv.stringToBytes e s).run P w = .ok (.slice (some ⟨w.heap.size, 0, none⟩) s.size cap) w1 ∧
    Nw w w1 (.cells ((s.data.map fun b => Value.int .u8 b.toNat) ++ Array.replicate (cap - s.size) (.int .u8 0)) e fr) ∧ ∀ i, i < cap → ¬ (fr.1 ≤ i ∧ i < fr.2) := by
  have hc : s.size ≤ (Question.appendCap s.size 0 e).cut (w.tape w.drawn (.appendCap s.size 0 e)) := by simp only [Question.cut]; omega
  generalize hcap : (Question.appendCap s.size 0 e).cut (w.tape w.drawn (.appendCap s.size 0 e)) = cap at hc
  have hnew := nw_alloc w.drew (.cells ((s.data.map fun b => Value.int .u8 b.toNat) ++ Array.replicate (cap - s.size) (.int .u8 0)) e)
  have hsz : ((s.data.map fun b : UInt8 => Value.int .u8 b.toNat) ++ Array.replicate (cap - s.size) (Value.int .u8 0)).size = cap := by
    have : s.data.size = s.size := rfl
    simp [this]; omega
  have hu := upd_freeze hnew.at_ cap
  have hne := hu.ne
  refine ⟨cap, _, (cap, cap + 1), hc, ?_, ⟨hu.os.trans hnew.os, hu.tape.trans hnew.tape, hu.output.trans hnew.output, by rw [hu.size, hnew.size]; rfl, hu.at_, fun i hi => (hu.ne i (by show i ≠ w.heap.size; omega)).trans (hnew.ne i hi)⟩, fun i hi => by simp; omega⟩
  have hshape : (w.drew.alloc (.cells ((s.data.map fun b => Value.int .u8 b.toNat) ++ Array.replicate (cap - s.size) (.int .u8 0)) e)).shape? w.drew.heap.size = some (e, cap) := by
    simp only [World.shape?, hnew.at_]
    rw [hsz]
  simp only [Conv.stringToBytes, Sem.run_bind, run_choose, Question.forced, Bool.false_eq_true, if_false, World.drew_eq, Result.andThen_ok, newRow, run_newObj, World.alloc_eq, Sem.run_pure, markStringish, hcap, run_shape, hshape, run_freeze]
  rfl

theorem run_strRunes (e : TypeId) (s : ByteArray) : ∃ cap, (Conv.runesFrom s s.size 0 #[]).size ≤ cap ∧ (Conv.stringToRunes e s).run P w = .ok (.slice (some ⟨w.heap.size, 0, none⟩) (Conv.runesFrom s s.size 0 #[]).size cap)
    (w.drew.alloc (.cells (Conv.runesFrom s s.size 0 #[] ++ Array.replicate (cap - (Conv.runesFrom s s.size 0 #[]).size) (.int .i32 0)) e)) := by
  generalize hr : Conv.runesFrom s s.size 0 #[] = r
  have hc : r.size ≤ (Question.appendCap r.size 0 e).cut (w.tape w.drawn (.appendCap r.size 0 e)) := by simp only [Question.cut]; omega
  generalize hcap : (Question.appendCap r.size 0 e).cut (w.tape w.drawn (.appendCap r.size 0 e)) = cap at hc
  refine ⟨cap, hc, ?_⟩
  simp only [Conv.stringToRunes, hr, Sem.run_bind, run_choose, Question.forced, Bool.false_eq_true, if_false, World.drew_eq, Result.andThen_ok, newRow, run_newObj, World.alloc_eq, Sem.run_pure, hcap]
  rfl

theorem runes_flat (s : ByteArray) : ∀ (n i : Nat) (acc : Array Value), (∀ v ∈ acc.toList, VR ρ v v) → ∀ v ∈ (Conv.runesFrom s n i acc).toList, VR ρ v v
  | 0, i, acc, h => h
  | n + 1, i, acc, h => by
    simp only [Conv.runesFrom]
    split
    · refine runes_flat s n _ _ fun v hv => ?_
      rw [Array.toList_push, List.mem_append] at hv
      rcases hv with hv | hv
      · exact h v hv
      · simp at hv; subst hv; exact .int _ _
    · exact h
theorem LR.refl_of {xs : List Value} (h : ∀ v ∈ xs, VR ρ v v) : LR ρ xs xs := by
  induction xs with
  | nil => exact .nil
  | cons x xs ih => exact .cons _ _ _ _ (h x (by simp)) (ih fun v hv => h v (by simp [hv]))

theorem conv_ok (h : HR P G base ρ M w) {s d : TypeId} {x x' : Value} {v : Value} (hs : conv P s d x M = some (v, M1)) (rx : VR ρ x x') :
    ∃ v' w' ρ', (convert s d x').run P w = .ok v' w' ∧ ρ.le ρ' ∧ VR ρ' v v' ∧ HR P G base ρ' M1 w' ∧ Below base w w' := by
  unfold conv at hs
  split at hs
  · rename_i ds k k0 n hus hud
    simp only [Option.some.injEq, Prod.mk.injEq] at hs
    obtain ⟨rfl, rfl⟩ := hs
    cases rx
    exact ⟨_, w, ρ, by simp [convert, run_underlying hus, run_underlying hud, Conv.intToInt], Ren.le.refl _, .int _ _, h, Below.refl _ _⟩
  · rename_i ds str hus hud
    simp only [Option.some.injEq, Prod.mk.injEq] at hs
    obtain ⟨rfl, rfl⟩ := hs
    cases rx
    exact ⟨_, w, ρ, by simp [convert, run_underlying hus, run_underlying hud], Ren.le.refl _, .str _, h, Below.refl _ _⟩
  · rename_i ds k0 n hus hud
    simp only [Option.some.injEq, Prod.mk.injEq] at hs
    obtain ⟨rfl, rfl⟩ := hs
    cases rx
    exact ⟨_, w, ρ, by simp [convert, run_underlying hus, run_underlying hud, Conv.intToString], Ren.le.refl _, .str _, h, Below.refl _ _⟩
  · rename_i e str hus hud
    cases rx
    split at hs
    · rename_i he
      cases hn : newCells M e (str.data.toList.map fun b => .int .u8 b.toNat) (some 1) with
      | none => rw [hn] at hs; cases hs
      | some p =>
        obtain ⟨a, M2⟩ := p
        rw [hn] at hs
        simp only [Option.some.injEq, Prod.mk.injEq] at hs
        obtain ⟨rfl, rfl⟩ := hs
        have hds : str.data.size = str.size := rfl
        obtain ⟨cap, w1, fr, c1, c2, c3, c4⟩ := run_strBytes (P := P) (w := w) e str
        have hasz : ((str.data.map fun b : UInt8 => Value.int .u8 b.toNat) ++ Array.replicate (cap - str.size) (Value.int .u8 0)).size = cap := by simp [hds]; omega
        obtain ⟨rfl, ρ', l, q1, q2, q3, q4, q5⟩ := newCells_ok h hn c3 (by rw [hasz]; simp [hds]; exact c1) (fun j u hu => by
          have hj : j < str.data.size := by
            have := (List.getElem?_eq_some_iff.1 hu).1
            simpa using this
          refine ⟨u, ?_, ?_⟩
          · rw [Array.getElem?_append_left (by simpa using hj)]
            simpa using hu
          · rw [List.getElem?_map] at hu
            cases hb : str.data.toList[j]? with
            | none => rw [hb] at hu; cases hu
            | some b => rw [hb] at hu; simp at hu; subst hu; exact .int _ _) (by rw [hasz]; exact c4)
        refine ⟨.slice (some ⟨w.heap.size, 0, none⟩) str.size cap, w1, ρ', ?_, q1, ?_, q4, q5⟩
        · simp only [convert, Sem.run_bind, run_underlying hus, run_underlying hud, run_underlying he, Result.andThen_ok]
          exact c2
        · have := slice_new (ρ' := ρ') (n := str.size) (c := cap) (sz := 1) q2 (by rw [q3]) (by rw [q3]) c1 (by rw [q3]; simp only [hasz]; omega)
          rw [q3] at this
          exact this
    · rename_i he
      simp only at hs
      cases hn : newCells M e (Conv.runesFrom str str.size 0 #[]).toList (some 1) with
      | none => rw [hn] at hs; cases hs
      | some p =>
        obtain ⟨a, M2⟩ := p
        rw [hn] at hs
        simp only [Option.some.injEq, Prod.mk.injEq] at hs
        obtain ⟨rfl, rfl⟩ := hs
        obtain ⟨cap, c1, c2⟩ := run_strRunes (P := P) (w := w) e str
        have hfl := runes_flat (ρ := ρ) str str.size 0 #[] (by simp)
        generalize Conv.runesFrom str str.size 0 #[] = r at *
        have hasz : (r ++ Array.replicate (cap - r.size) (Value.int .i32 0)).size = cap := by simp; omega
        obtain ⟨rfl, ρ', l, q1, q2, q3, q4, q5⟩ := newCells_ok h.drew hn (nw_alloc w.drew (.cells (r ++ Array.replicate (cap - r.size) (.int .i32 0)) e)) (by rw [hasz]; simpa using c1) (fun j u hu => by
          have hj : j < r.size := by
            have := (List.getElem?_eq_some_iff.1 hu).1
            simpa using this
          refine ⟨u, ?_, hfl u (List.mem_of_getElem? hu)⟩
          rw [Array.getElem?_append_left hj]
          simpa using hu) (fun j _ hh => by simp at hh)
        refine ⟨.slice (some ⟨w.heap.size, 0, none⟩) r.size cap, _, ρ', ?_, q1, ?_, q4, ⟨q5.os, q5.tape, q5.output, q5.size, q5.block⟩⟩
        · simp only [convert, Sem.run_bind, run_underlying hus, run_underlying hud, run_underlying he, Result.andThen_ok]
          exact c2
        · have := slice_new (ρ' := ρ') (n := r.size) (c := cap) (sz := 1) q2 (by rw [q3]) (by rw [q3]) c1 (by rw [q3]; simp only [hasz]; omega)
          rw [q3] at this
          simpa using this
    · cases hs
  · rename_i e a n c hus hud
    split at hs
    rotate_left
    · cases hs
    rename_i he
    cases a with
    | none =>
      simp only [Option.some.injEq, Prod.mk.injEq] at hs
      obtain ⟨rfl, rfl⟩ := hs
      cases rx
      refine ⟨.string .empty, w, ρ, ?_, Ren.le.refl _, .str _, h, Below.refl _ _⟩
      simp only [convert, Sem.run_bind, run_underlying hus, run_underlying hud, run_underlying he, Result.andThen_ok]
      simp [Conv.bytesToString]
    | some a =>
      simp only at hs
      cases hc : cellsAt M a n with
      | none => rw [hc] at hs; cases hs
      | some cs =>
        rw [hc] at hs
        simp only at hs
        cases hb : bytesOfCells cs with
        | none => rw [hb] at hs; cases hs
        | some l =>
          rw [hb] at hs
          simp only [Option.some.injEq, Prod.mk.injEq] at hs
          obtain ⟨rfl, rfl⟩ := hs
          obtain ⟨xs, e1, e2⟩ := bytesOfCells_ok hb
          subst e1
          have hres : (⟨l.toArray⟩ : ByteArray) = strOfNums xs := by rw [e2]; rfl
          rw [hres]
          cases rx with
          | slE a a' =>
            have hx0 : xs = [] := by
              unfold cellsAt at hc
              split at hc
              · cases hc
              · split at hc
                · have := (cut_get hc).2.1
                  simpa using this
                · cases hc
            subst hx0
            refine ⟨.string (strOfNums []), w, ρ, ?_, Ren.le.refl _, .str _, h, Below.refl _ _⟩
            simp only [convert, Sem.run_bind, run_underlying hus, run_underlying hud, run_underlying he, Result.andThen_ok]
            simp [Conv.bytesToString, loadCells, loadCellsFrom, strOfNums]
            rfl
          | sl a loc n c c' hρ hsp hx hy =>
            obtain ⟨_, k2, cs', k3, k4⟩ := cellsAt_ok h hρ hc
            have hcs := ints_same k3
            subst hcs
            refine ⟨_, w, ρ, run_convert_bytes_arg w s e hus he loc.g (loc.off + a.off) n c' xs (by simpa using k2) (fun i hi => ?_) d hud, Ren.le.refl _, .str _, h, Below.refl _ _⟩
            have hxl : i < xs.length := by simp at k2; omega
            have := k4 i (.int .u8 (xs.getD i 0)) (by simp [List.getElem?_map, List.getElem?_eq_getElem hxl, List.getD, List.getElem?_eq_getElem hxl])
            rwa [add_none] at this
  · cases hs

theorem lenOf_ok (h : HR P G base ρ M w) (ts : Array TypeId) (ty : TypeId) {t : TypeId} (ht0 : ts[0]? = some t) {x x' : Value} {v : Value} (hs : lenOf P t x M = some v) (rx : VR ρ x x') (args : Array Value) (ha : args[0]? = some x') :
    (Builtin.len_ ts ty args).run P w = .ok v w ∧ VR ρ v v := by
  unfold lenOf at hs
  split at hs
  · rename_i s hu
    simp only [Option.some.injEq] at hs; subst hs
    cases rx
    exact ⟨by simp [Builtin.len_, ht0, ha, run_underlying hu], .int _ _⟩
  · rename_i n e y hu
    simp only [Option.some.injEq] at hs; subst hs
    exact ⟨by simp [Builtin.len_, ht0, ha, run_underlying hu], .int _ _⟩
  · rename_i a y hu
    split at hs
    · rename_i n e hu2
      simp only [Option.some.injEq] at hs; subst hs
      exact ⟨by simp [Builtin.len_, ht0, ha, run_underlying hu, run_underlying hu2], .int _ _⟩
    · cases hs
  · rename_i e a n c hu
    simp only [Option.some.injEq] at hs; subst hs
    cases rx <;> exact ⟨by simp [Builtin.len_, ht0, ha, run_underlying hu], .int _ _⟩
  · rename_i k e hu
    simp only [Option.some.injEq] at hs; subst hs
    cases rx
    exact ⟨by simp [Builtin.len_, ht0, ha, run_underlying hu], .int _ _⟩
  · rename_i k e r hu
    cases hg : M.get r with
    | none => rw [hg] at hs; cases hs
    | some o =>
      cases o with
      | map es clk =>
        simp only [hg, Option.some.injEq] at hs; subst hs
        cases rx with
        | map r l hρ h0 =>
          obtain ⟨o', h1, h2⟩ := h.get hg (by simp) hρ
          cases o' with
          | map es' clk' =>
            have := h2.2.2.length
            exact ⟨by simp [Builtin.len_, ht0, ha, run_underlying hu, getMap h1, this], .int _ _⟩
          | _ => exact h2.elim
      | _ => simp [hg] at hs
  · cases hs

theorem builtinM_ok (h : HR P G base ρ M w) (b : Builtin) (ts : Array TypeId) (ty : TypeId) (cs : Array Bool) {args : List Value} {args' : Array Value} {v : Value} (hs : builtinM P b ts.toList args M = some (v, M1)) (ra : LR ρ args args'.toList) :
    ∃ v' w' ρ', (builtin b ts ty cs args').run P w = .ok (.value v') w' ∧ ρ.le ρ' ∧ VR ρ' v v' ∧ HR P G base ρ' M1 w' ∧ Below base w w' := by
  unfold builtinM at hs
  split at hs
  · rename_i t rest x rest' hts
    have ht0 : ts[0]? = some t := by rw [← Array.getElem?_toList, hts]; rfl
    cases hl : lenOf P t x M with
    | none => rw [hl] at hs; cases hs
    | some u =>
      rw [hl] at hs
      simp only [Option.some.injEq, Prod.mk.injEq] at hs
      obtain ⟨rfl, rfl⟩ := hs
      obtain ⟨x', e1, r1⟩ := ra.at_ (i := 0) (v := x) rfl
      obtain ⟨k1, k2⟩ := lenOf_ok h ts ty ht0 hl r1 args' (by simpa using e1)
      exact ⟨_, w, ρ, by simp only [builtin, Sem.run_bind, k1, Result.andThen_ok, Sem.run_pure], Ren.le.refl _, k2, h, Below.refl _ _⟩
  · rename_i t rest x rest' hts
    have ht0 : ts[0]? = some t := by rw [← Array.getElem?_toList, hts]; rfl
    obtain ⟨x', e1, r1⟩ := ra.at_ (i := 0) (v := x) rfl
    have e1' : args'[0]? = some x' := by simpa using e1
    split at hs
    · rename_i n e hu
      simp only [Option.some.injEq, Prod.mk.injEq] at hs
      obtain ⟨rfl, rfl⟩ := hs
      exact ⟨_, w, ρ, by simp [builtin, Builtin.cap_, ht0, e1', run_underlying hu, goInt], Ren.le.refl _, .int _ _, h, Below.refl _ _⟩
    · rename_i e n c hu
      simp only [Option.some.injEq, Prod.mk.injEq] at hs
      obtain ⟨rfl, rfl⟩ := hs
      cases r1
      exact ⟨_, w, ρ, by simp [builtin, Builtin.cap_, ht0, e1', run_underlying hu, goInt], Ren.le.refl _, .int _ _, h, Below.refl _ _⟩
    · rename_i e a n c hu
      split at hs
      rotate_left
      · cases hs
      rename_i cc tt hg
      simp only [Option.some.injEq, Prod.mk.injEq] at hs
      obtain ⟨rfl, rfl⟩ := hs
      cases r1 with
      | slE a a' => exact ⟨_, w, ρ, by simp [builtin, Builtin.cap_, ht0, e1', run_underlying hu, goInt], Ren.le.refl _, .int _ _, h, Below.refl _ _⟩
      | sl a l n c c' hρ hsp hx hy =>
        obtain ⟨o', h1, h2⟩ := h.get hg (by simp) hρ
        cases o' with
        | cells c2 t2 fr =>
          have hc' := hx h2.2.1
          subst hc'
          exact ⟨_, w, ρ, by simp [builtin, Builtin.cap_, ht0, e1', run_underlying hu, goInt], Ren.le.refl _, .int _ _, h, Below.refl _ _⟩
        | _ => exact h2.elim
    · cases hs
  · rename_i s x
    obtain ⟨l⟩ := args'
    cases ra with
    | cons _ s' _ _ r1 ra => cases ra with
      | cons _ x' _ _ r2 ra => cases ra with
        | nil =>
          obtain ⟨v', w', ρ', k1, k2, k3, k4, k5⟩ := appendM_ok h ts ty hs r1 r2
          exact ⟨v', w', ρ', by simp only [builtin, Sem.run_bind]; rw [show (Builtin.append_ ts ty ({ toList := [s', x'] } : Array Value)).run P w = .ok v' w' from k1]; rfl, k2, k3, k4, k5⟩
  · rename_i t rest d s hts
    have ht0 : ts[0]? = some t := by rw [← Array.getElem?_toList, hts]; rfl
    obtain ⟨l⟩ := args'
    cases ra with
    | cons _ s' _ _ r1 ra => cases ra with
      | cons _ x' _ _ r2 ra => cases ra with
        | nil =>
          obtain ⟨v', w', k1, k3, k4, k5⟩ := copyM_ok h ts ty ht0 hs r1 r2
          exact ⟨v', w', ρ, by simp only [builtin, Sem.run_bind]; rw [show (Builtin.copy_ ts ty ({ toList := [s', x'] } : Array Value)).run P w = .ok v' w' from k1]; rfl, Ren.le.refl _, k3, k4, k5⟩
  · rename_i t rest x hts
    have ht0 : ts[0]? = some t := by rw [← Array.getElem?_toList, hts]; rfl
    cases hc : clearM P t x M with
    | none => rw [hc] at hs; cases hs
    | some M2 =>
      rw [hc] at hs
      simp only [Option.some.injEq, Prod.mk.injEq] at hs
      obtain ⟨rfl, rfl⟩ := hs
      obtain ⟨l⟩ := args'
      cases ra with
      | cons _ x' _ _ r1 ra => cases ra with
        | nil =>
          obtain ⟨w', k1, k2, k3⟩ := clearM_ok h ts ty ht0 hc r1
          exact ⟨_, w', ρ, by simp only [builtin, Sem.run_bind]; rw [show (Builtin.clear_ ts ty ({ toList := [x'] } : Array Value)).run P w = .ok (.tuple #[]) w' from k1]; rfl, Ren.le.refl _, .tuple _ _ .nil, k2, k3⟩
  · rename_i t rest x k hts
    have ht0 : ts[0]? = some t := by rw [← Array.getElem?_toList, hts]; rfl
    cases hc : deleteM P t x k M with
    | none => rw [hc] at hs; cases hs
    | some M2 =>
      rw [hc] at hs
      simp only [Option.some.injEq, Prod.mk.injEq] at hs
      obtain ⟨rfl, rfl⟩ := hs
      obtain ⟨l⟩ := args'
      cases ra with
      | cons _ x' _ _ r1 ra => cases ra with
        | cons _ k' _ _ r2 ra => cases ra with
          | nil =>
            obtain ⟨w', k1, k2, k3⟩ := deleteM_ok h hc r1 r2 ts ht0 ty
            exact ⟨_, w', ρ, by simp only [builtin, Sem.run_bind]; rw [show (Builtin.delete_ ts ty ({ toList := [x', k'] } : Array Value)).run P w = .ok (.tuple #[]) w' from k1]; rfl, Ren.le.refl _, .tuple _ _ .nil, k2, k3⟩
  · rename_i args _ _ _
    cases hf : args.all isFlat with
    | false => rw [hf] at hs; cases hs
    | true =>
      rw [hf] at hs
      simp only at hs
      have he := flats_eq hf ra
      cases hm : eval0 P (Builtin.min_ #[] 0 args.toArray) with
      | none => rw [hm] at hs; cases hs
      | some u =>
        rw [hm] at hs
        simp only at hs
        cases hfv : isFlat u with
        | false => rw [hfv] at hs; cases hs
        | true =>
        rw [hfv] at hs
        simp only [Option.some.injEq, Prod.mk.injEq] at hs
        obtain ⟨rfl, rfl⟩ := hs
        have hargs : args' = args.toArray := by rw [← he]
        subst hargs
        have hk : (Builtin.min_ ts ty args.toArray).run P w = .ok u w := eval0_run (s := Builtin.min_ ts ty args.toArray) hm w
        exact ⟨_, w, ρ, by simp only [builtin, Sem.run_bind, hk, Result.andThen_ok, Sem.run_pure], Ren.le.refl _, isFlat_refl hfv, h, Below.refl _ _⟩
  · rename_i args _ _ _
    cases hf : args.all isFlat with
    | false => rw [hf] at hs; cases hs
    | true =>
      rw [hf] at hs
      simp only at hs
      have he := flats_eq hf ra
      cases hm : eval0 P (Builtin.max_ #[] 0 args.toArray) with
      | none => rw [hm] at hs; cases hs
      | some u =>
        rw [hm] at hs
        simp only at hs
        cases hfv : isFlat u with
        | false => rw [hfv] at hs; cases hs
        | true =>
        rw [hfv] at hs
        simp only [Option.some.injEq, Prod.mk.injEq] at hs
        obtain ⟨rfl, rfl⟩ := hs
        have hargs : args' = args.toArray := by rw [← he]
        subst hargs
        have hk : (Builtin.max_ ts ty args.toArray).run P w = .ok u w := eval0_run (s := Builtin.max_ ts ty args.toArray) hm w
        exact ⟨_, w, ρ, by simp only [builtin, Sem.run_bind, hk, Result.andThen_ok, Sem.run_pure], Ren.le.refl _, isFlat_refl hfv, h, Below.refl _ _⟩
  · cases hs
end
end Go.Abs
