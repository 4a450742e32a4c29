/-
  The abstract machine and the model: reading and writing cells, new blocks, parts of structs.
-/
import Derived.Test.YtkemccclhhnljaaAbs2
import Derived.Laws.Cells
import Derived.Laws.Append
import Derived.Laws.Entries
namespace Go.Abs
open Go.RowKit

theorem eval0_run {α : Type} {P : Program} : ∀ {s : Sem α} {a : α}, eval0 P s = some a → ∀ w, s.run P w = .ok a w := by
  intro s
  induction s with
  | pure a => intro b h w; simp [eval0] at h; subst h; rfl
  | program k ih => intro b h w; simp only [eval0] at h; exact ih P h w
  | _ => intro b h; simp [eval0] at h

theorem cut_get {c cs : List Value} {o n : Nat} (h : cut c o n = some cs) : o + n ≤ c.length ∧ cs.length = n ∧ ∀ j, j < n → cs[j]? = c[o + j]? := by
  unfold cut at h
  cases hb : Nat.ble (o + n) c.length with
  | false => rw [hb] at h; cases h
  | true =>
    rw [hb] at h
    injection h with h
    subst h
    have hle : o + n ≤ c.length := Nat.le_of_ble_eq_true hb
    refine ⟨hle, by simp; omega, fun j hj => ?_⟩
    rw [List.getElem?_take_of_lt hj, List.getElem?_drop]
theorem over_get {c c1 cs : List Value} {o : Nat} (h : over c o cs = some c1) : o + cs.length ≤ c.length ∧ c1.length = c.length ∧ ∀ j, c1[j]? = if o ≤ j ∧ j < o + cs.length then cs[j - o]? else c[j]? := by
  unfold over at h
  cases hb : Nat.ble (o + cs.length) c.length with
  | false => rw [hb] at h; cases h
  | true =>
    rw [hb] at h
    injection h with h
    subst h
    have hle : o + cs.length ≤ c.length := Nat.le_of_ble_eq_true hb
    refine ⟨hle, by simp; omega, fun j => ?_⟩
    have ht : (c.take o).length = o := by simp; omega
    by_cases h1 : j < o
    · rw [if_neg (by omega), List.append_assoc, List.getElem?_append_left (by omega), List.getElem?_take_of_lt h1]
    · by_cases h2 : j < o + cs.length
      · rw [if_pos (by omega), List.append_assoc, List.getElem?_append_right (by omega), ht, List.getElem?_append_left (by omega)]
      · rw [if_neg (by omega), List.append_assoc, List.getElem?_append_right (by omega), ht, List.getElem?_append_right (by omega), List.getElem?_drop]
        congr 1; omega

section
variable {P : Program} {G base : Nat} {ρ : Ren} {M M1 : Mem} {w w1 : World}

theorem cell_of_block {w : World} {g : Nat} {c : Array Value} {t : TypeId} {fr : Nat × Nat} (h : w.heap[g]? = some (.cells c t fr)) (o : Nat) : w.cell? ⟨g, o, none⟩ = c[o]? := by
  simp [World.cell?, h]
theorem frozen_of_block {w : World} {g : Nat} {c : Array Value} {t : TypeId} {fr : Nat × Nat} (h : w.heap[g]? = some (.cells c t fr)) (o : Nat) : w.frozen? ⟨g, o, none⟩ = (decide (fr.1 ≤ o) && decide (o < fr.2)) := by
  simp [World.frozen?, h]
theorem add_none (g o n : Nat) : (⟨g, o, none⟩ : Addr).add n = ⟨g, o + n, none⟩ := by unfold Addr.add; split <;> simp_all
theorem add_spot {a : Addr} (h : a.spot = none) (n : Nat) : a.add n = ⟨a.block, a.off + n, none⟩ := by
  obtain ⟨b, o, s⟩ := a; simp only at h; subst h; exact add_none b o n

/-- Cells that are read. -/
theorem cellsAt_ok (h : HR P G base ρ M w) {a : Addr} {l : Loc} (hl : ρ a.block = some l) {n : Nat} {cs : List Value} (hc : cellsAt M a n = some cs) :
    a.spot = none ∧ cs.length = n ∧ ∃ cs', LR ρ cs cs' ∧ ∀ j v, cs'[j]? = some v → w.cell? ((⟨l.g, l.off + a.off, none⟩ : Addr).add j) = some v := by
  unfold cellsAt at hc
  cases hs : a.spot with
  | some s => rw [hs] at hc; cases hc
  | none =>
    rw [hs] at hc
    simp only at hc
    cases hg : M.get a.block with
    | none => rw [hg] at hc; cases hc
    | some o =>
      rw [hg] at hc
      cases o with
      | cells c t x =>
        simp only at hc
        obtain ⟨hle, hn, hj⟩ := cut_get hc
        obtain ⟨o', h1, h2⟩ := h.get hg (by simp) hl
        cases o' with
        | cells c' t' fr =>
          obtain ⟨_, _, hsz, hlen, hp, _⟩ := h2
          refine ⟨rfl, hn, (List.range n).map (fun j => (c'[l.off + (a.off + j)]?).getD undef), ?_, ?_⟩
          · refine LR.of_at (by simp [hn]) fun i v v' hv hv' => ?_
            have hi : i < n := by
              have := (List.getElem?_eq_some_iff.1 hv).1; omega
            rw [hj i hi] at hv
            obtain ⟨u, e, r⟩ := hp _ _ hv
            rw [List.getElem?_map, List.getElem?_range hi] at hv'
            simp only [Option.map_some, Option.some.injEq] at hv'
            rw [e] at hv'
            simp at hv'
            exact hv' ▸ r
          · intro j v hv
            have hi : j < n := by
              have := (List.getElem?_eq_some_iff.1 hv).1; simpa using this
            rw [List.getElem?_map, List.getElem?_range hi] at hv
            simp only [Option.map_some, Option.some.injEq] at hv
            rw [add_none, cell_of_block h1]
            obtain ⟨u, hu⟩ : ∃ u, c[a.off + j]? = some u := ⟨c[a.off + j]'(by omega), List.getElem?_eq_getElem _⟩
            obtain ⟨u', e, _⟩ := hp _ _ hu
            rw [e] at hv
            simp at hv
            rw [Nat.add_assoc, e, hv]
        | _ => exact h2.elim
      | _ => simp at hc
theorem loadCells_ok (h : HR P G base ρ M w) {a : Addr} {l : Loc} (hl : ρ a.block = some l) {n : Nat} {cs : List Value} (hc : cellsAt M a n = some cs) :
    a.spot = none ∧ cs.length = n ∧ ∃ cs', LR ρ cs cs' ∧ (loadCells ⟨l.g, l.off + a.off, none⟩ n).run P w = .ok cs'.toArray w := by
  obtain ⟨h1, h2, cs', h3, h4⟩ := cellsAt_ok h hl hc
  refine ⟨h1, h2, cs', h3, ?_⟩
  have := run_loadCells_list (P := P) w ⟨l.g, l.off + a.off, none⟩ cs' h4
  rwa [← h3.length, h2] at this

theorem run_storeCells_upd (P : Program) (g o : Nat) : ∀ (vs : List Value) (i : Nat) (w : World) (c : Array Value) (t : TypeId) (fr : Nat × Nat), w.heap[g]? = some (.cells c t fr) → o + i + vs.length ≤ c.size →
    (∀ j, j < c.size → ¬ (fr.1 ≤ j ∧ j < fr.2)) → (∀ v ∈ vs, v.oneCell' = true) →
    ∃ w1 c1, (storeCells ⟨g, o, none⟩ vs i).run P w = .ok () w1 ∧ Upd w w1 g (.cells c1 t fr) ∧ c1.size = c.size ∧ ∀ j, c1[j]? = if o + i ≤ j ∧ j < o + i + vs.length then vs[j - (o + i)]? else c[j]?
  | [], i, w, c, t, fr, hb, _, _, _ => ⟨w, c, rfl, ⟨rfl, rfl, rfl, rfl, hb, fun _ _ => rfl⟩, rfl, fun j => by simp; intro h1 h2; omega⟩
  | v :: vs, i, w, c, t, fr, hb, hlen, hfr, h1 => by
    simp only [List.length_cons] at hlen
    have hadd := add_none g o i
    have hcell : w.cell? ⟨g, o + i, none⟩ = some (c[o + i]'(by omega)) := by rw [cell_of_block hb]; exact Array.getElem?_eq_getElem _
    have hfz : w.frozen? ⟨g, o + i, none⟩ = false := by
      rw [frozen_of_block hb]
      have := hfr (o + i) (by omega)
      rw [Bool.and_eq_false_iff]
      by_cases q : fr.1 ≤ o + i
      · right; simp; omega
      · left; simpa using q
    have hst : (store ((⟨g, o, none⟩ : Addr).add i) v).run P w = .ok () (w.setCell ⟨g, o + i, none⟩ v) := by
      rw [hadd, run_store P w _ v _ (h1 v (by simp))]
      simp [hcell, hfz]
    have hb1 : (w.setCell ⟨g, o + i, none⟩ v).heap[g]? = some (.cells (c.setIfInBounds (o + i) v) t fr) := by
      simp [World.setCell, Array.getElem?_modify, hb]
    obtain ⟨w1, c1, hr, hu, hs, hj⟩ := run_storeCells_upd P g o vs (i + 1) (w.setCell ⟨g, o + i, none⟩ v) _ t fr hb1 (by simp; omega) (by simpa using hfr) (fun u hu => h1 u (by simp [hu]))
    refine ⟨w1, c1, ?_, ⟨hu.os, hu.tape, hu.output, by rw [hu.size]; simp, hu.at_, fun k hk => (hu.ne k hk).trans (Below.heap_setCell _ _ _ _ hk)⟩, by rw [hs]; simp, fun j => ?_⟩
    · simp only [storeCells, Sem.run_bind, hst, Result.andThen_ok, hr]
    · rw [hj j]
      by_cases q : j = o + i
      · subst q
        rw [if_neg (by omega), if_pos (by simp)]
        simp [show o + i < c.size from by omega]
      · by_cases q2 : o + (i + 1) ≤ j ∧ j < o + (i + 1) + vs.length
        · rw [if_pos q2, if_pos (by simp; omega)]
          obtain ⟨m, rfl⟩ : ∃ m, j = o + i + (m + 1) := ⟨j - (o + i) - 1, by omega⟩
          rw [show o + i + (m + 1) - (o + (i + 1)) = m from by omega, show o + i + (m + 1) - (o + i) = m + 1 from by omega]
          rfl
        · rw [if_neg q2, if_neg (by simp; omega), Array.getElem?_setIfInBounds_ne (by omega)]

/-- Cells that are written. -/
theorem writeAt_ok (h : HR P G base ρ M w) {a : Addr} {l : Loc} (hl : ρ a.block = some l) {cs cs' : List Value} (hr : LR ρ cs cs') (hc : writeAt M a cs = some M1) :
    a.spot = none ∧ ∃ w1, (storeCells ⟨l.g, l.off + a.off, none⟩ cs' 0).run P w = .ok () w1 ∧ HR P G base ρ M1 w1 ∧ Below base w w1 := by
  unfold writeAt at hc
  cases hs : a.spot with
  | some s => rw [hs] at hc; cases hc
  | none =>
    rw [hs] at hc
    simp only at hc
    cases hg : M.get a.block with
    | none => rw [hg] at hc; cases hc
    | some o =>
      rw [hg] at hc
      cases o with
      | cells c t x =>
        simp only at hc
        cases ho : over c a.off cs with
        | none => rw [ho] at hc; cases hc
        | some c1 =>
          rw [ho] at hc
          simp only at hc
          cases hall : cs.all Value.oneCell' with
          | false => rw [hall] at hc; cases hc
          | true =>
            rw [hall] at hc
            simp only at hc
            obtain ⟨hle, hlen, hget⟩ := over_get ho
            obtain ⟨o', h1, h2⟩ := h.get hg (by simp) hl
            cases o' with
            | cells c' t' fr =>
              obtain ⟨rfl, hx, hsz, hfit, hp, hfr⟩ := h2
              have hcl := hr.length
              obtain ⟨w1, c2, hrun, hu, hs2, hj⟩ := run_storeCells_upd P l.g (l.off + a.off) cs' 0 w c' t' fr h1 (by omega) (by rw [hsz]; exact hfr) (hr.ones hall)
              have ho2 : OR P ρ l (.cells c1 t' x) (.cells c2 t' fr) := by
                refine ⟨rfl, hx, by rw [hs2, hsz], by omega, fun i v hv => ?_, hfr⟩
                rw [hget i] at hv
                rw [hj]
                by_cases q : a.off ≤ i ∧ i < a.off + cs.length
                · rw [if_pos q] at hv
                  rw [if_pos (by omega)]
                  obtain ⟨v', e, r⟩ := hr.at_ hv
                  exact ⟨v', by rw [← e]; congr 1; omega, r⟩
                · rw [if_neg q] at hv
                  rw [if_neg (by omega)]
                  exact hp i v hv
              obtain ⟨k1, k2⟩ := h.upd hc hg (by simp) hl hu ho2
              exact ⟨rfl, w1, hrun, k1, k2⟩
            | _ => exact h2.elim
      | _ => simp at hc

/-- A new block of cells. -/
theorem newCells_ok (h : HR P G base ρ M w) {t : TypeId} {cs : List Value} {x : Option Nat} {a : Addr} (hc : newCells M t cs x = some (a, M1)) {c' : Array Value} {fr : Nat × Nat} (hw : Nw w w1 (.cells c' t fr))
    (hlen : cs.length ≤ c'.size) (hp : ∀ (i : Nat) (v : Value), cs[i]? = some v → ∃ v', c'[i]? = some v' ∧ VR ρ v v') (hfr : ∀ i, i < c'.size → ¬ (fr.1 ≤ i ∧ i < fr.2)) :
    a = ⟨M.next, 0, none⟩ ∧ ∃ ρ' l, ρ.le ρ' ∧ ρ' M.next = some l ∧ l = ⟨w.heap.size, 0, c'.size, x⟩ ∧ HR P G base ρ' M1 w1 ∧ Below base w w1 := by
  unfold newCells at hc
  cases hn : M.new (.cells cs t x) with
  | none => rw [hn] at hc; cases hc
  | some p =>
    obtain ⟨b, M2⟩ := p
    rw [hn] at hc
    simp only [Option.some.injEq, Prod.mk.injEq] at hc
    obtain ⟨rfl, rfl⟩ := hc
    have hb := (new_get hn).1
    subst hb
    have hle : ρ.le (ρ.add M.next ⟨w.heap.size, 0, c'.size, x⟩) := Ren.add_le _ (h.fresh _ (Nat.le_refl _))
    obtain ⟨k1, k2, k3⟩ := h.new (l := ⟨w.heap.size, 0, c'.size, x⟩) hn hw rfl ⟨rfl, rfl, rfl, by simpa using hlen, fun i v hv => by
      obtain ⟨v', e, r⟩ := hp i v hv
      exact ⟨v', by simpa using e, r.mono hle⟩, hfr⟩
    exact ⟨rfl, _, _, k2, Ren.add_at _ _ _, rfl, k1, k3⟩
theorem newCells_exact (h : HR P G base ρ M w) {t : TypeId} {cs : List Value} {x : Option Nat} {a : Addr} (hc : newCells M t cs x = some (a, M1)) {cs' : List Value} (hr : LR ρ cs cs') :
    a = ⟨M.next, 0, none⟩ ∧ ∃ ρ' l, ρ.le ρ' ∧ ρ' M.next = some l ∧ l = ⟨w.heap.size, 0, cs'.length, x⟩ ∧ HR P G base ρ' M1 (w.alloc (.cells cs'.toArray t)) ∧ Below base w (w.alloc (.cells cs'.toArray t)) := by
  have := newCells_ok h hc (nw_alloc w (.cells cs'.toArray t)) (by simp [hr.length]) (fun i v hv => by
    obtain ⟨v', e, r⟩ := hr.at_ hv
    exact ⟨v', by simpa using e, r⟩) (fun i _ hh => by simp at hh)
  simpa using this
theorem ptr_new {ρ' : Ren} {b : Nat} {l : Loc} (hl : ρ' b = some l) (h0 : l.off = 0) : VR ρ' (.pointer (some ⟨b, 0, none⟩)) (.pointer (some ⟨l.g, 0, none⟩)) := by
  have := VR.ptr (ρ := ρ') ⟨b, 0, none⟩ l hl rfl
  simpa [h0] using this
end

/-! ### Facts on types -/
theorem szOf_run {P : Program} {t : TypeId} {n : Nat} (h : szOf P t = some n) (w : World) : (sizeOf t).run P w = .ok n w := by
  unfold szOf at h
  cases hi : P.info? t with
  | none => rw [hi] at h; cases h
  | some i => rw [hi] at h; injection h with h; simp [sizeOf, typeInfo, hi, h]
theorem zeroOf_run {P : Program} {t : TypeId} {z : Value} (h : zeroOf P t = some z) (w : World) : (zeroValue t).run P w = .ok z w := by
  unfold zeroOf at h
  cases hi : P.info? t with
  | none => rw [hi] at h; cases h
  | some i => rw [hi] at h; simp [zeroValue, typeInfo, hi, h]
theorem aggB_run {P : Program} {t : TypeId} {b : Bool} (h : aggB P t = some b) (w : World) : (isAgg t).run P w = .ok b w := by
  unfold aggB at h
  cases hu : P.underlying t with
  | none => rw [hu] at h; cases h
  | some d => rw [hu] at h; simp only [isAgg, Sem.run_bind, run_underlying hu, Result.andThen_ok]; cases d <;> simp_all
theorem partL_ok {P : Program} {ρ : Ren} {t : TypeId} {cs cs' : Array Value} {off : Nat} {v : Value} (h : partL P t cs off = some v) (hr : LR ρ cs.toList cs'.toList) :
    ∃ v', VR ρ v v' ∧ ∀ w, (part t cs' off).run P w = .ok v' w := by
  unfold partL at h
  cases ha : aggB P t with
  | none => simp [ha] at h
  | some b =>
    cases b with
    | true =>
      cases hs : szOf P t with
      | none => simp [ha, hs] at h
      | some n =>
        simp only [ha, hs] at h
        cases hc : cut cs.toList off n with
        | none => simp [hc] at h
        | some l =>
          simp only [hc, Option.some.injEq] at h
          subst h
          obtain ⟨h1, h2, h3⟩ := cut_get hc
          refine ⟨.agg (cs'.extract off (off + n)), .agg _ _ ?_, fun w => by simp [part, aggB_run ha, szOf_run hs]⟩
          have hl := hr.length
          refine LR.of_at (by simp at *; omega) fun i u u' hu hu' => ?_
          have hi : i < n := by have := (List.getElem?_eq_some_iff.1 hu).1; simp at this; omega
          rw [List.toList_toArray, h3 i hi] at hu
          obtain ⟨u2, e, r⟩ := hr.at_ hu
          have e2 : (cs'.extract off (off + n)).toList[i]? = some u2 := by
            rw [Array.getElem?_toList, Array.getElem?_extract, if_pos (by simp at *; omega)]
            simpa using e
          rw [e2] at hu'
          injection hu' with hu'
          exact hu' ▸ r
    | false =>
      simp only [ha] at h
      have h' : cs.toList[off]? = some v := by
        cases hs : szOf P t <;> simpa [hs] using h
      obtain ⟨v', e, r⟩ := hr.at_ h'
      exact ⟨v', r, fun w => by simp [part, aggB_run ha, show cs'[off]? = some v' from by simpa using e]⟩

/-! ### build -/
theorem fold_set (off : Nat) : ∀ (l : List Value) (k : Nat) (cs : Array Value), off + k + l.length ≤ cs.size →
    ((l.zipIdx k).foldl (fun cs (x : Value × Nat) => cs.setIfInBounds (off + x.2) x.1) cs).size = cs.size ∧
    ∀ j, ((l.zipIdx k).foldl (fun cs (x : Value × Nat) => cs.setIfInBounds (off + x.2) x.1) cs)[j]? = if off + k ≤ j ∧ j < off + k + l.length then l[j - (off + k)]? else cs[j]?
  | [], k, cs, _ => ⟨rfl, fun j => by simp; intro h1 h2; omega⟩
  | v :: l, k, cs, h => by
    simp only [List.length_cons] at h
    obtain ⟨h1, h2⟩ := fold_set off l (k + 1) (cs.setIfInBounds (off + k) v) (by simp; omega)
    simp only [List.zipIdx_cons, List.foldl_cons]
    refine ⟨by rw [h1]; simp, fun j => ?_⟩
    rw [h2 j]
    by_cases q : j = off + k
    · subst q
      rw [if_neg (by omega), if_pos (by simp)]
      simp [show off + k < cs.size from by omega]
    · by_cases q2 : off + (k + 1) ≤ j ∧ j < off + (k + 1) + l.length
      · rw [if_pos q2, if_pos (by simp; omega)]
        obtain ⟨m, rfl⟩ : ∃ m, j = off + k + (m + 1) := ⟨j - (off + k) - 1, by omega⟩
        rw [show off + k + (m + 1) - (off + (k + 1)) = m from by omega, show off + k + (m + 1) - (off + k) = m + 1 from by omega]
        rfl
      · rw [if_neg q2, if_neg (by simp; omega), Array.getElem?_setIfInBounds_ne (by omega)]
theorem fill_ok {ρ : Ren} {place : Nat → Option (Nat × Nat)} : ∀ {ps ps' : List (Nat × Value)} {cs out : List Value} {cs' : Array Value}, fillL place cs ps = some out → LR ρ cs cs'.toList →
    ps.map (·.1) = ps'.map (·.1) → LR ρ (ps.map (·.2)) (ps'.map (·.2)) → ∃ out', Instr.fill place cs' ps' = some out' ∧ LR ρ out out'.toList
  | [], ps', cs, out, cs', h, hr, hi, hv => by
    cases ps' with
    | nil => simp only [fillL, Option.some.injEq] at h; subst h; exact ⟨cs', rfl, hr⟩
    | cons => simp at hi
  | (i, v) :: ps, ps', cs, out, cs', h, hr, hi, hv => by
    cases ps' with
    | nil => simp at hi
    | cons p ps' =>
      obtain ⟨i', v'⟩ := p
      simp only [List.map_cons, List.cons.injEq] at hi
      obtain ⟨rfl, hi⟩ := hi
      cases hv with
      | cons _ _ _ _ hv1 hv2 =>
        simp only [fillL] at h
        cases hp : place i with
        | none => rw [hp] at h; cases h
        | some q =>
          obtain ⟨off, size⟩ := q
          simp only [hp] at h
          cases hs : Nat.beq v.cells.size size with
          | false => rw [hs] at h; cases h
          | true =>
            rw [hs] at h
            simp only at h
            cases ho : over cs off v.cells.toList with
            | none => rw [ho] at h; cases h
            | some c1 =>
              rw [ho] at h
              simp only at h
              obtain ⟨g1, g2, g3⟩ := over_get ho
              have hvc := hv1.cells
              have hvl : v.cells.size = v'.cells.size := by have := hvc.length; simpa using this
              have hsz : v.cells.size = size := Nat.eq_of_beq_eq_true hs
              have hl := hr.length
              simp only [Array.length_toList] at hl g1 g3
              have hf := fold_set off v'.cells.toList 0 cs' (by simp; omega)
              have hfold : v'.cells.zipIdx.foldl (fun cs (x : Value × Nat) => cs.setIfInBounds (off + x.2) x.1) cs' = (v'.cells.toList.zipIdx 0).foldl (fun cs (x : Value × Nat) => cs.setIfInBounds (off + x.2) x.1) cs' := by
                rw [← Array.foldl_toList]; simp
              obtain ⟨out', e, r⟩ := fill_ok (place := place) (ps := ps) (ps' := ps') (cs := c1) (out := out) (cs' := v'.cells.zipIdx.foldl (fun cs (x : Value × Nat) => cs.setIfInBounds (off + x.2) x.1) cs') h (by
                rw [hfold]
                refine LR.of_at (by simp [hf.1, g2, hl]) fun j u u' hu hu' => ?_
                rw [g3 j] at hu
                rw [Array.getElem?_toList, hf.2 j] at hu'
                simp only [Nat.add_zero, Array.length_toList] at hu'
                by_cases q : off ≤ j ∧ j < off + v.cells.size
                · rw [if_pos q] at hu
                  rw [if_pos (by omega)] at hu'
                  obtain ⟨u2, e, r⟩ := hvc.at_ hu
                  rw [e] at hu'; injection hu' with hu'; exact hu' ▸ r
                · rw [if_neg q] at hu
                  rw [if_neg (by omega)] at hu'
                  obtain ⟨u2, e, r⟩ := hr.at_ hu
                  rw [Array.getElem?_toList] at e
                  rw [e] at hu'; injection hu' with hu'; exact hu' ▸ r) hi hv2
              refine ⟨out', ?_, r⟩
              simp only [Instr.fill, hp]
              rw [if_neg (by simp; omega)]
              exact e

/-! ### zeros -/
theorem repL_length (z : List Value) (n : Nat) : (repL z n).length = n * z.length := by
  induction n with
  | zero => simp [repL]
  | succ n ih => simp [repL, ih, Nat.succ_mul]; omega
theorem repL_get (z : List Value) (n j : Nat) (h : j < n * z.length) : (repL z n)[j]? = z[j % z.length]? := by
  induction n generalizing j with
  | zero => simp at h
  | succ n ih =>
    simp only [repL]
    by_cases q : j < z.length
    · rw [List.getElem?_append_left q, Nat.mod_eq_of_lt q]
    · rw [List.getElem?_append_right (by omega), ih (j - z.length) (by rw [Nat.succ_mul] at h; omega)]
      congr 1
      rw [Nat.mod_eq_sub_mod (by omega : j ≥ z.length)]
theorem zeros_toList (z : Array Value) (n m : Nat) (hz : 0 < z.size) (hm : m = n * z.size) : ((Array.range m).map (z[· % z.size]!)).toList = repL z.toList n := by
  apply List.ext_getElem?
  intro j
  by_cases q : j < n * z.size
  · rw [repL_get _ _ _ (by simpa using q)]
    have hmod : j % z.size < z.size := Nat.mod_lt _ hz
    simp [hm, q, hmod]
  · rw [List.getElem?_eq_none (by simp [hm]; omega), List.getElem?_eq_none (by rw [repL_length]; simp; omega)]

end Go.Abs
