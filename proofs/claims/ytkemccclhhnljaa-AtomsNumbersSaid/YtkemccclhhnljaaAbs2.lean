/-
  The abstract machine and the model: how values, temporaries and heaps of the two lie to each other.
-/
import Derived.Test.YtkemccclhhnljaaAbs1
import Derived.Below
import Derived.Deep.Draws
namespace Go.Abs
open Go.RowKit

/-! ### The table -/
theorem beq0 {k : Nat} (h : k ≠ 0) : Nat.beq k 0 = false := by cases k with
  | zero => exact absurd rfl h
  | succ k => rfl
namespace Tr
variable {α : Type}
theorem get_left (t : Tr α) (k : Nat) (h : (k % 2) = 0) : t.get (k + 1) = t.left.get (k / 2) := by
  cases t with
  | e => simp [get, left]
  | n l o r => simp [get, left, h]
theorem get_right (t : Tr α) (k : Nat) (h : (k % 2) ≠ 0) : t.get (k + 1) = t.right.get (k / 2) := by
  cases t with
  | e => simp [get, right]
  | n l o r => simp only [get, right]; rw [beq0 h]
theorem get_zero (t : Tr α) : t.get 0 = t.top := by cases t <;> simp [get, top]
theorem get_set_ne : ∀ (f : Nat) (t : Tr α) (k j : Nat) (v : α), j ≠ k → (t.set f k v).get j = t.get j
  | 0, _, _, _, _, _ => rfl
  | f + 1, t, 0, j, v, h => by
    cases j with
    | zero => exact absurd rfl h
    | succ j =>
      simp only [set]
      by_cases hj : j % 2 = 0
      · rw [get_left _ _ hj, get_left _ _ hj]; rfl
      · rw [get_right _ _ hj, get_right _ _ hj]; rfl
  | f + 1, t, k + 1, j, v, h => by
    simp only [set]
    by_cases hk : k % 2 = 0
    · rw [show Nat.beq (k % 2) 0 = true from by simpa using hk]
      cases j with
      | zero => simp [get, get_zero]
      | succ j =>
        by_cases hj : j % 2 = 0
        · rw [get_left _ _ hj, get_left _ _ hj]; exact get_set_ne f _ _ _ _ (by omega)
        · rw [get_right _ _ hj, get_right _ _ hj]; rfl
    · rw [beq0 hk]
      cases j with
      | zero => simp [get, get_zero]
      | succ j =>
        by_cases hj : j % 2 = 0
        · rw [get_left _ _ hj, get_left _ _ hj]; rfl
        · rw [get_right _ _ hj, get_right _ _ hj]; exact get_set_ne f _ _ _ _ (by omega)
theorem get_set_eq : ∀ (f : Nat) (t : Tr α) (k : Nat) (v : α), k + 2 ≤ 2 ^ f → (t.set f k v).get k = some v
  | 0, _, _, _, h => by simp at h
  | f + 1, t, 0, v, _ => by simp [set, get]
  | f + 1, t, k + 1, v, h => by
    have hf : k / 2 + 2 ≤ 2 ^ f := by rw [Nat.pow_succ] at h; omega
    simp only [set]
    by_cases hk : k % 2 = 0
    · rw [show Nat.beq (k % 2) 0 = true from by simpa using hk]; simp only; rw [get_left _ _ hk]; exact get_set_eq f _ _ _ hf
    · rw [beq0 hk]; simp only; rw [get_right _ _ hk]; exact get_set_eq f _ _ _ hf
theorem get_ofList : ∀ (xs : List α) (k : Nat) (t : Tr α) (j : Nat), k + xs.length + 2 ≤ 2 ^ 40 →
    (ofList k xs t).get j = if k ≤ j ∧ j < k + xs.length then xs[j - k]? else t.get j
  | [], k, t, j, _ => by simp [ofList]; intro h1 h2; omega
  | x :: xs, k, t, j, h => by
    simp only [List.length_cons] at h
    simp only [ofList, List.length_cons]
    rw [get_ofList xs (k + 1) _ j (by omega)]
    by_cases hj : j = k
    · subst hj
      rw [if_neg (by omega), if_pos (by omega), get_set_eq _ _ _ _ (by omega)]
      simp
    · by_cases h1 : k + 1 ≤ j ∧ j < k + 1 + xs.length
      · rw [if_pos h1, if_pos (by omega)]
        obtain ⟨m, rfl⟩ : ∃ m, j = k + 1 + m := ⟨j - (k + 1), by omega⟩
        rw [show k + 1 + m - (k + 1) = m from by omega, show k + 1 + m - k = m + 1 from by omega]
        rfl
      · rw [if_neg h1, if_neg (by omega), get_set_ne _ _ _ _ _ hj]
end Tr

/-! ### Where the blocks lie -/
structure Loc where
  g : Nat
  off : Nat
  n : Nat
  x : Option Nat

abbrev Ren := Nat → Option Loc
def Ren.le (ρ ρ' : Ren) : Prop := ∀ b l, ρ b = some l → ρ' b = some l
theorem Ren.le.refl (ρ : Ren) : ρ.le ρ := fun _ _ h => h
theorem Ren.le.trans {a b c : Ren} (h : a.le b) (k : b.le c) : a.le c := fun _ _ e => k _ _ (h _ _ e)

mutual
/-- A value of the abstract machine and one of the model. -/
inductive VR (ρ : Ren) : Value → Value → Prop where
  | bool (b : Bool) : VR ρ (.bool b) (.bool b)
  | int (k : IntKind) (n : Int) : VR ρ (.int k n) (.int k n)
  | str (s : ByteArray) : VR ρ (.string s) (.string s)
  | nilF : VR ρ .nilFunc .nilFunc
  | nilI : VR ρ .nilIface .nilIface
  | ptr0 : VR ρ (.pointer none) (.pointer none)
  | ptr (a : Addr) (l : Loc) (h : ρ a.block = some l) (hs : a.spot = none) : VR ρ (.pointer (some a)) (.pointer (some ⟨l.g, l.off + a.off, none⟩))
  | sl0 (n c : Nat) : VR ρ (.slice none n c) (.slice none n c)
  | slE (a a' : Addr) : VR ρ (.slice (some a) 0 0) (.slice (some a') 0 0)
  | sl (a : Addr) (l : Loc) (n c c' : Nat) (h : ρ a.block = some l) (hs : a.spot = none) (hx : l.x = none → c' = c)
      (hy : ∀ sz, l.x = some sz → c ≤ c' ∧ l.off + a.off + c' * sz ≤ l.n) : VR ρ (.slice (some a) n c) (.slice (some ⟨l.g, l.off + a.off, none⟩) n c')
  | map0 : VR ρ (.map none) (.map none)
  | map (r : Nat) (l : Loc) (h : ρ r = some l) (h0 : l.off = 0) : VR ρ (.map (some r)) (.map (some l.g))
  | func (f : FuncId) (xs ys xs' ys' : Array Value) (h : LR ρ xs.toList xs'.toList) (k : LR ρ ys.toList ys'.toList) : VR ρ (.func (.func f) xs ys) (.func (.func f) xs' ys')
  | yield (r : Nat) (l : Loc) (h : ρ r = some l) (h0 : l.off = 0) : VR ρ (.func (.yield r) #[] #[]) (.func (.yield l.g) #[] #[])
  | iface (t : TypeId) (v v' : Value) (h : VR ρ v v') : VR ρ (.iface t v) (.iface t v')
  | agg (xs xs' : Array Value) (h : LR ρ xs.toList xs'.toList) : VR ρ (.agg xs) (.agg xs')
  | tuple (xs xs' : Array Value) (h : LR ρ xs.toList xs'.toList) : VR ρ (.tuple xs) (.tuple xs')
inductive LR (ρ : Ren) : List Value → List Value → Prop where
  | nil : LR ρ [] []
  | cons (v v' : Value) (vs vs' : List Value) (h : VR ρ v v') (k : LR ρ vs vs') : LR ρ (v :: vs) (v' :: vs')
end

mutual
theorem VR.mono {ρ ρ' : Ren} (hle : ρ.le ρ') : ∀ {v v' : Value}, VR ρ v v' → VR ρ' v v'
  | _, _, .bool b => .bool b
  | _, _, .int k n => .int k n
  | _, _, .str s => .str s
  | _, _, .nilF => .nilF
  | _, _, .nilI => .nilI
  | _, _, .ptr0 => .ptr0
  | _, _, .ptr a l h hs => .ptr a l (hle _ _ h) hs
  | _, _, .sl0 n c => .sl0 n c
  | _, _, .slE a a' => .slE a a'
  | _, _, .sl a l n c c' h hs hx hy => .sl a l n c c' (hle _ _ h) hs hx hy
  | _, _, .map0 => .map0
  | _, _, .map r l h h0 => .map r l (hle _ _ h) h0
  | _, _, .func f xs ys xs' ys' h k => .func f xs ys xs' ys' (LR.mono hle h) (LR.mono hle k)
  | _, _, .yield r l h h0 => .yield r l (hle _ _ h) h0
  | _, _, .iface t v v' h => .iface t v v' (VR.mono hle h)
  | _, _, .agg xs xs' h => .agg xs xs' (LR.mono hle h)
  | _, _, .tuple xs xs' h => .tuple xs xs' (LR.mono hle h)
theorem LR.mono {ρ ρ' : Ren} (hle : ρ.le ρ') : ∀ {v v' : List Value}, LR ρ v v' → LR ρ' v v'
  | _, _, .nil => .nil
  | _, _, .cons v v' vs vs' h k => .cons v v' vs vs' (VR.mono hle h) (LR.mono hle k)
end

section
variable {ρ : Ren}
theorem LR.length {xs ys : List Value} (h : LR ρ xs ys) : xs.length = ys.length := by
  induction xs generalizing ys with
  | nil => cases h; rfl
  | cons x xs ih => cases h with | cons v v' vs vs' h k => simp [ih k]
theorem LR.at_ {xs ys : List Value} (h : LR ρ xs ys) : ∀ {i : Nat} {v : Value}, xs[i]? = some v → ∃ v', ys[i]? = some v' ∧ VR ρ v v' := by
  induction xs generalizing ys with
  | nil => intro i v hv; simp at hv
  | cons x xs ih =>
    intro i v hv
    cases h with
    | cons v1 v1' vs vs' h k =>
      cases i with
      | zero => simp at hv; subst hv; exact ⟨_, rfl, h⟩
      | succ i => simp at hv; obtain ⟨v', e, r⟩ := ih k hv; exact ⟨v', by simpa using e, r⟩
theorem LR.of_at {xs ys : List Value} (hl : xs.length = ys.length) (h : ∀ (i : Nat) v v', xs[i]? = some v → ys[i]? = some v' → VR ρ v v') : LR ρ xs ys := by
  induction xs generalizing ys with
  | nil => cases ys with
    | nil => exact .nil
    | cons => simp at hl
  | cons x xs ih => cases ys with
    | nil => simp at hl
    | cons y ys => exact .cons _ _ _ _ (h 0 x y rfl rfl) (ih (by simpa using hl) fun i v v' h1 h2 => h (i + 1) v v' (by simpa using h1) (by simpa using h2))
theorem LR.append {xs ys us vs : List Value} (h : LR ρ xs ys) (k : LR ρ us vs) : LR ρ (xs ++ us) (ys ++ vs) := by
  induction xs generalizing ys with
  | nil => cases h; exact k
  | cons x xs ih => cases h with | cons v v' vs vs' h h' => exact .cons _ _ _ _ h (ih h')
theorem LR.take {xs ys : List Value} (h : LR ρ xs ys) (n : Nat) : LR ρ (xs.take n) (ys.take n) := by
  induction n generalizing xs ys with
  | zero => simp; exact .nil
  | succ n ih => cases h with
    | nil => simp; exact .nil
    | cons v v' vs vs' h k => exact .cons _ _ _ _ h (ih k)
theorem LR.drop {xs ys : List Value} (h : LR ρ xs ys) (n : Nat) : LR ρ (xs.drop n) (ys.drop n) := by
  induction n generalizing xs ys with
  | zero => exact h
  | succ n ih => cases h with
    | nil => simp; exact .nil
    | cons v v' vs vs' h k => exact ih k
theorem LR.flat_map {α : Type} (f : α → Value) (hf : ∀ a, VR ρ (f a) (f a)) (l : List α) : LR ρ (l.map f) (l.map f) := by
  induction l with
  | nil => exact .nil
  | cons a l ih => exact .cons _ _ _ _ (hf a) ih
end

/-! ### Flat values -/
theorem flat_eq : ∀ (n : Nat) {ρ : Ren} {v v' : Value}, flat n v = true → VR ρ v v' → v' = v
  | 0, _, _, _, h, _ => by simp [flat] at h
  | n + 1, ρ, v, v', h, r => by
    have hl : ∀ {xs ys : List Value}, xs.all (flat n) = true → LR ρ xs ys → ys = xs := by
      intro xs
      induction xs with
      | nil => intro ys _ r; cases r; rfl
      | cons x xs ih =>
        intro ys hx r
        cases r with
        | cons v v' vs vs' h k =>
          simp only [List.all_cons, Bool.and_eq_true] at hx
          rw [flat_eq n hx.1 h, ih hx.2 k]
    cases r with
    | ptr a l h' hs => simp [flat] at h
    | slE a a' => simp [flat] at h
    | sl a l n c c' h' hs hx hy => simp [flat] at h
    | map r l h' h0 => simp [flat] at h
    | func f xs ys xs' ys' h' k => simp [flat] at h
    | yield r l h' h0 => simp [flat] at h
    | iface t v v' h' => simp only [flat] at h; rw [flat_eq n h h']
    | agg xs xs' h' => simp only [flat] at h; rw [Array.toList_inj.1 (hl h h')]
    | tuple xs xs' h' => simp only [flat] at h; rw [Array.toList_inj.1 (hl h h')]
    | _ => rfl
theorem flat_refl : ∀ (n : Nat) {ρ : Ren} {v : Value}, flat n v = true → VR ρ v v
  | 0, _, _, h => by simp [flat] at h
  | n + 1, ρ, v, h => by
    have hl : ∀ {xs : List Value}, xs.all (flat n) = true → LR ρ xs xs := by
      intro xs
      induction xs with
      | nil => intro _; exact .nil
      | cons x xs ih =>
        intro hx
        simp only [List.all_cons, Bool.and_eq_true] at hx
        exact .cons _ _ _ _ (flat_refl n hx.1) (ih hx.2)
    cases v with
    | bool b => exact .bool b
    | int k n => exact .int k n
    | float k b => simp [flat] at h
    | complex k a b => simp [flat] at h
    | string s => exact .str s
    | pointer a => cases a with
      | none => exact .ptr0
      | some a => simp [flat] at h
    | slice a n c => cases a with
      | none => exact .sl0 n c
      | some a => simp [flat] at h
    | map r => cases r with
      | none => exact .map0
      | some r => simp [flat] at h
    | chan r => simp [flat] at h
    | func f a b => simp [flat] at h
    | nilFunc => exact .nilF
    | iface t v => exact .iface t v v (flat_refl n (by simpa [flat] using h))
    | nilIface => exact .nilI
    | agg xs => exact .agg xs xs (hl (by simpa [flat] using h))
    | tuple xs => exact .tuple xs xs (hl (by simpa [flat] using h))
theorem isFlat_eq {ρ : Ren} {v v' : Value} (h : isFlat v = true) (r : VR ρ v v') : v' = v := flat_eq 8 h r
theorem isFlat_refl {ρ : Ren} {v : Value} (h : isFlat v = true) : VR ρ v v := flat_refl 8 h
theorem VR.undef (ρ : Ren) : VR ρ undef undef := .tuple _ _ .nil
theorem flats_eq {ρ : Ren} {xs ys : List Value} (h : xs.all isFlat = true) (r : LR ρ xs ys) : ys = xs := by
  induction xs generalizing ys with
  | nil => cases r; rfl
  | cons x xs ih => cases r with
    | cons v v' vs vs' h' k =>
      simp only [List.all_cons, Bool.and_eq_true] at h
      rw [isFlat_eq h.1 h', ih h.2 k]
theorem flats_refl {ρ : Ren} {xs : List Value} (h : xs.all isFlat = true) : LR ρ xs xs := by
  induction xs with
  | nil => exact .nil
  | cons x xs ih =>
    simp only [List.all_cons, Bool.and_eq_true] at h
    exact .cons _ _ _ _ (isFlat_refl h.1) (ih h.2)
/-- the cells of a value -/
theorem VR.cells {ρ : Ren} {v v' : Value} (r : VR ρ v v') : LR ρ v.cells.toList v'.cells.toList := by
  cases r with
  | agg xs xs' h => exact h
  | bool b => exact .cons _ _ _ _ (.bool b) .nil
  | int k n => exact .cons _ _ _ _ (.int k n) .nil
  | str s => exact .cons _ _ _ _ (.str s) .nil
  | nilF => exact .cons _ _ _ _ .nilF .nil
  | nilI => exact .cons _ _ _ _ .nilI .nil
  | ptr0 => exact .cons _ _ _ _ .ptr0 .nil
  | ptr a l h hs => exact .cons _ _ _ _ (.ptr a l h hs) .nil
  | sl0 n c => exact .cons _ _ _ _ (.sl0 n c) .nil
  | slE a a' => exact .cons _ _ _ _ (.slE a a') .nil
  | sl a l n c c' h hs hx hy => exact .cons _ _ _ _ (.sl a l n c c' h hs hx hy) .nil
  | map0 => exact .cons _ _ _ _ .map0 .nil
  | map r l h h0 => exact .cons _ _ _ _ (.map r l h h0) .nil
  | func f xs ys xs' ys' h k => exact .cons _ _ _ _ (.func f xs ys xs' ys' h k) .nil
  | yield r l h h0 => exact .cons _ _ _ _ (.yield r l h h0) .nil
  | iface t v v' h => exact .cons _ _ _ _ (.iface t v v' h) .nil
  | tuple xs xs' h => exact .cons _ _ _ _ (.tuple xs xs' h) .nil
theorem VR.one {ρ : Ren} {v v' : Value} (r : VR ρ v v') : v'.oneCell' = v.oneCell' := by cases r <;> rfl
theorem LR.ones {ρ : Ren} {xs ys : List Value} (r : LR ρ xs ys) (h : xs.all Value.oneCell' = true) : ∀ v ∈ ys, v.oneCell' = true := by
  induction xs generalizing ys with
  | nil => cases r; intro v hv; cases hv
  | cons x xs ih => cases r with
    | cons v v' vs vs' h' k =>
      simp only [List.all_cons, Bool.and_eq_true] at h
      intro u hu
      rcases List.mem_cons.1 hu with rfl | hu
      · rw [h'.one]; exact h.1
      · exact ih k h.2 u hu

/-! ### Temporaries -/
def TR (ρ : Ren) (T : Tr Value) (nt : Nat) (tmps : Array Value) : Prop :=
  tmps.size = nt ∧ nt + 2 ≤ 2 ^ 40 ∧ ∀ t, VR ρ ((T.get t).getD undef) (tmps.getD t undef)
theorem TR.mono {ρ ρ' : Ren} (hle : ρ.le ρ') {T : Tr Value} {nt : Nat} {tmps : Array Value} (h : TR ρ T nt tmps) : TR ρ' T nt tmps :=
  ⟨h.1, h.2.1, fun t => (h.2.2 t).mono hle⟩
theorem TR.set {ρ : Ren} {T : Tr Value} {nt : Nat} {tmps : Array Value} (h : TR ρ T nt tmps) {d : Nat} (hd : d < nt) {v v' : Value} (r : VR ρ v v') :
    TR ρ (T.set 40 d v) nt (tmps.setIfInBounds d v') := by
  refine ⟨by simp [h.1], h.2.1, fun t => ?_⟩
  by_cases ht : t = d
  · subst ht
    rw [Tr.get_set_eq _ _ _ _ (by have := h.2.1; omega)]
    simp [h.1, hd, Array.getD_eq_getD_getElem?]
    exact r
  · rw [Tr.get_set_ne _ _ _ _ _ ht]
    have := h.2.2 t
    simp only [Array.getD_eq_getD_getElem?] at this ⊢
    rwa [Array.getElem?_setIfInBounds_ne (by omega)]

/-- An operand. -/
def GR (G : Nat) (ρ : Ren) : Prop := ∀ g, g < G → ∃ l, ρ g = some l ∧ l.g = g ∧ l.off = 0
theorem GR.mono {G : Nat} {ρ ρ' : Ren} (hle : ρ.le ρ') (h : GR G ρ) : GR G ρ' := fun g hg =>
  let ⟨l, h1, h2, h3⟩ := h g hg
  ⟨l, hle _ _ h1, h2, h3⟩
theorem ev_ok {G : Nat} {ρ : Ren} {T : Tr Value} {nt : Nat} {a : Act} (hT : TR ρ T nt a.tmps) (hG : GR G ρ) {x : Operand} {v : Value} (h : ev G T x = some v) : VR ρ v (a.eval x) := by
  cases x with
  | tmp t =>
    have := hT.2.2 t
    simp only [ev] at h
    cases ht : T.get t with
    | none => rw [ht] at h this; simp at h; subst h; exact this
    | some u => rw [ht] at h this; simp at h; subst h; exact this
  | const c =>
    simp only [ev] at h
    cases hc : isFlat c with
    | false => rw [hc] at h; cases h
    | true => rw [hc] at h; injection h with h; subst h; exact isFlat_refl hc
  | global g =>
    simp only [ev] at h
    cases hg : Nat.blt g G with
    | false => rw [hg] at h; cases h
    | true =>
      rw [hg] at h; injection h with h; subst h
      obtain ⟨l, h1, h2, h3⟩ := hG g (by simpa using hg)
      have := VR.ptr (ρ := ρ) ⟨g, 0, none⟩ l h1 rfl
      simp only [h2, h3] at this
      exact this
  | func f => simp only [ev] at h; injection h with h; subst h; exact .func f _ _ _ _ .nil .nil
/-- Operands: what is asked of each. -/
def EvOk (G : Nat) (ρ : Ren) (T : Tr Value) (a : Act) (x : Operand) : Prop := ∀ v, ev G T x = some v → VR ρ v (a.eval x)
theorem evs_ok {G : Nat} {ρ : Ren} {T : Tr Value} {a : Act} : ∀ {xs : List Operand} {vs : List Value}, (∀ x ∈ xs, EvOk G ρ T a x) → evs G T xs = some vs → LR ρ vs (xs.map a.eval)
  | [], vs, _, h => by simp [evs] at h; subst h; exact .nil
  | x :: xs, vs, hE, h => by
    simp only [evs] at h
    cases hx : ev G T x with
    | none => rw [hx] at h; cases h
    | some v =>
      rw [hx] at h
      cases hxs : evs G T xs with
      | none => simp only [hxs] at h; cases h
      | some us => simp only [hxs] at h; injection h with h; subst h; exact .cons _ _ _ _ (hE x (by simp) _ hx) (evs_ok (fun y hy => hE y (by simp [hy])) hxs)
theorem evps_ok {G : Nat} {ρ : Ren} {T : Tr Value} {a : Act} : ∀ {xs : List (Nat × Operand)} {vs : List (Nat × Value)}, (∀ x ∈ xs.map (·.2), EvOk G ρ T a x) → evps G T xs = some vs →
    vs.map (·.1) = xs.map (·.1) ∧ LR ρ (vs.map (·.2)) (xs.map fun p => a.eval p.2)
  | [], vs, _, h => by simp [evps] at h; subst h; exact ⟨rfl, .nil⟩
  | (i, x) :: xs, vs, hE, h => by
    simp only [evps] at h
    cases hx : ev G T x with
    | none => rw [hx] at h; cases h
    | some v =>
      rw [hx] at h
      cases hxs : evps G T xs with
      | none => simp only [hxs] at h; cases h
      | some us =>
        simp only [hxs] at h; injection h with h; subst h
        obtain ⟨h1, h2⟩ := evps_ok (fun y hy => hE y (by simp only [List.map_cons, List.mem_cons]; exact .inr hy)) hxs
        exact ⟨by simp [h1], .cons _ _ _ _ (hE x (by simp) _ hx) h2⟩

/-! ### Objects and heaps -/
structure MR (ρ : Ren) (e e' : MapEntry) : Prop where
  key : VR ρ e.key e'.key
  val : VR ρ e.val e'.val
  born : e'.born = e.born

inductive ER (ρ : Ren) : List MapEntry → List MapEntry → Prop where
  | nil : ER ρ [] []
  | cons (e e' : MapEntry) (es es' : List MapEntry) (h : MR ρ e e') (k : ER ρ es es') : ER ρ (e :: es) (e' :: es')
theorem MR.mono {ρ ρ' : Ren} (hle : ρ.le ρ') {e e' : MapEntry} (h : MR ρ e e') : MR ρ' e e' := ⟨h.key.mono hle, h.val.mono hle, h.born⟩
theorem ER.mono {ρ ρ' : Ren} (hle : ρ.le ρ') {es es' : List MapEntry} (h : ER ρ es es') : ER ρ' es es' := by
  induction h with
  | nil => exact .nil
  | cons e e' es es' h _ ih => exact .cons _ _ _ _ (h.mono hle) ih

def OR (P : Program) (ρ : Ren) (l : Loc) : CObj → Obj → Prop
  | .cells c t x, .cells c' t' fr => t' = t ∧ l.x = x ∧ c'.size = l.n ∧ l.off + c.length ≤ l.n ∧ (∀ i v, c[i]? = some v → ∃ v', c'[l.off + i]? = some v' ∧ VR ρ v v') ∧
      (∀ i, i < l.n → ¬ (fr.1 ≤ i ∧ i < fr.2))
  | .map es clk, .map es' clk' => l.off = 0 ∧ clk' = clk ∧ ER ρ es es'.toList
  | .siter s p, .stringIter s' p' => l.off = 0 ∧ s' = s ∧ p' = p
  | .loop st p _ T nt ps as bd d, .loop r => l.off = 0 ∧ r.state = st ∧ r.pending = p ∧ r.params.toList = ps ∧ r.assign = as ∧ r.body = bd ∧ TR ρ T nt r.tmps ∧ (∃ ld, ρ d = some ld ∧ ld.off = 0 ∧ r.defers = ld.g) ∧
      codeOk P as = true ∧ codeOk P bd = true
  | .ddef, .deferred (some []) => l.off = 0
  | _, _ => False
theorem OR.mono {P : Program} {ρ ρ' : Ren} (hle : ρ.le ρ') {l : Loc} {o : CObj} {o' : Obj} (h : OR P ρ l o o') : OR P ρ' l o o' := by
  cases o <;> cases o' <;> try exact h.elim
  case cells.cells c t x c' t' fr => exact ⟨h.1, h.2.1, h.2.2.1, h.2.2.2.1, fun i v hv => let ⟨v', e, r⟩ := h.2.2.2.2.1 i v hv; ⟨v', e, r.mono hle⟩, h.2.2.2.2.2⟩
  case map.map => exact ⟨h.1, h.2.1, h.2.2.mono hle⟩
  case siter.stringIter => exact h
  case loop.loop =>
    obtain ⟨h1, h2, h3, h4, h5, h6, h7, ⟨ld, h8, h9, h10⟩, h11⟩ := h
    exact ⟨h1, h2, h3, h4, h5, h6, h7.mono hle, ⟨ld, hle _ _ h8, h9, h10⟩, h11⟩
  case ddef.deferred calls =>
    cases calls with
    | none => exact h.elim
    | some ds => cases ds with
      | nil => exact h
      | cons => exact h.elim

structure HR (P : Program) (G base : Nat) (ρ : Ren) (M : Mem) (w : World) : Prop where
  obj : ∀ b o, M.get b = some o → o ≠ .dead → ∃ l o', ρ b = some l ∧ w.heap[l.g]? = some o' ∧ OR P ρ l o o'
  inj : ∀ b1 b2 o1 o2 l1 l2, M.get b1 = some o1 → o1 ≠ .dead → M.get b2 = some o2 → o2 ≠ .dead → ρ b1 = some l1 → ρ b2 = some l2 → l1.g = l2.g → b1 = b2
  fresh : ∀ b, M.next ≤ b → ρ b = none
  lt : ∀ b l, ρ b = some l → l.g < w.heap.size
  base_ : ∀ b l, M.lo ≤ b → ρ b = some l → base ≤ l.g
  glob : GR G ρ
  small : M.next ≤ 1000000000
  bsz : base ≤ w.heap.size

/-- The world w1 is w but for block g, which is o. -/
structure Upd (w w1 : World) (g : Nat) (o : Obj) : Prop where
  os : w1.os = w.os
  tape : w1.tape = w.tape
  output : w1.output = w.output
  size : w1.heap.size = w.heap.size
  at_ : w1.heap[g]? = some o
  ne : ∀ i, i ≠ g → w1.heap[i]? = w.heap[i]?
/-- The world w1 is w with a new block. -/
structure Nw (w w1 : World) (o : Obj) : Prop where
  os : w1.os = w.os
  tape : w1.tape = w.tape
  output : w1.output = w.output
  size : w1.heap.size = w.heap.size + 1
  at_ : w1.heap[w.heap.size]? = some o
  ne : ∀ i, i < w.heap.size → w1.heap[i]? = w.heap[i]?

section
variable {P : Program} {G base : Nat} {ρ : Ren} {M M1 : Mem} {w w1 : World}
theorem Nw.below {o : Obj} (h : Nw w w1 o) (hb : base ≤ w.heap.size) : Below base w w1 := ⟨h.os, h.tape, h.output, by rw [h.size]; omega, fun k hk => h.ne k (by omega)⟩
theorem Upd.below {g : Nat} {o : Obj} (h : Upd w w1 g o) (hb : base ≤ g) : Below base w w1 := ⟨h.os, h.tape, h.output, by rw [h.size]; omega, fun k hk => h.ne k (by omega)⟩
theorem nw_alloc (w : World) (o : Obj) : Nw w (w.alloc o) o :=
  ⟨rfl, rfl, rfl, by simp, by show (w.heap.push o)[w.heap.size]? = some o; simp, fun i hi => Below.heap_alloc w o i hi⟩
theorem HR.drew (h : HR P G base ρ M w) : HR P G base ρ M w.drew := ⟨h.obj, h.inj, h.fresh, h.lt, h.base_, h.glob, h.small, h.bsz⟩

theorem put_get {b : Nat} {o : CObj} (h : M.put b o = some M1) (hs : M.next ≤ 1000000000) : M1.lo = M.lo ∧ M1.next = M.next ∧ M.lo ≤ b ∧ b < M.next ∧ M1.get b = some o ∧ ∀ j, j ≠ b → M1.get j = M.get j := by
  unfold Mem.put at h
  cases hc : (Nat.ble M.lo b && Nat.blt b M.next) with
  | false => rw [hc] at h; cases h
  | true =>
    rw [hc] at h
    injection h with h
    subst h
    simp only [Bool.and_eq_true, Nat.ble_eq, Nat.blt_eq] at hc
    exact ⟨rfl, rfl, hc.1, hc.2, Tr.get_set_eq _ _ _ _ (by omega), fun j hj => Tr.get_set_ne _ _ _ _ _ hj⟩
theorem new_get {b : Nat} {o : CObj} (h : M.new o = some (b, M1)) : b = M.next ∧ M1.lo = M.lo ∧ M1.next = M.next + 1 ∧ M.lo ≤ M.next ∧ M.next < 1000000000 ∧ M1.get b = some o ∧ ∀ j, j ≠ b → M1.get j = M.get j := by
  unfold Mem.new at h
  cases hc : (Nat.ble M.lo M.next && Nat.blt M.next 1000000000) with
  | false => rw [hc] at h; cases h
  | true =>
    rw [hc] at h
    simp only [Option.some.injEq, Prod.mk.injEq] at h
    obtain ⟨rfl, rfl⟩ := h
    simp only [Bool.and_eq_true, Nat.ble_eq, Nat.blt_eq] at hc
    exact ⟨rfl, rfl, rfl, hc.1, hc.2, Tr.get_set_eq _ _ _ _ (by omega), fun j hj => Tr.get_set_ne _ _ _ _ _ hj⟩

theorem HR.get (h : HR P G base ρ M w) {b : Nat} {o : CObj} (hb : M.get b = some o) (hd : o ≠ .dead) {l : Loc} (hl : ρ b = some l) : ∃ o', w.heap[l.g]? = some o' ∧ OR P ρ l o o' := by
  obtain ⟨l', o', h1, h2, h3⟩ := h.obj b o hb hd
  rw [hl] at h1
  injection h1 with h1
  subst h1
  exact ⟨o', h2, h3⟩

/-- An object is written. -/
theorem HR.upd (h : HR P G base ρ M w) {b : Nat} {o o0 : CObj} {o' : Obj} {l : Loc} (hp : M.put b o = some M1) (hb : M.get b = some o0) (hd : o0 ≠ .dead) (hl : ρ b = some l) (hu : Upd w w1 l.g o') (ho : OR P ρ l o o') :
    HR P G base ρ M1 w1 ∧ Below base w w1 := by
  obtain ⟨e1, e2, h1, h2, h3, h4⟩ := put_get hp h.small
  have hodd : ∀ j oj, M1.get j = some oj → oj ≠ .dead → ∃ oj0, M.get j = some oj0 ∧ oj0 ≠ .dead := by
    intro j oj hj hjd
    by_cases e : j = b
    · subst e; exact ⟨o0, hb, hd⟩
    · rw [h4 j e] at hj; exact ⟨oj, hj, hjd⟩
  refine ⟨⟨?_, ?_, ?_, ?_, ?_, h.glob, by rw [e2]; exact h.small, by rw [hu.size]; exact h.bsz⟩, hu.below (h.base_ b l h1 hl)⟩
  · intro j oj hj hjd
    by_cases e : j = b
    · subst e
      rw [h3] at hj
      injection hj with hj
      subst hj
      exact ⟨l, o', hl, hu.at_, ho⟩
    · rw [h4 j e] at hj
      obtain ⟨lj, oj', q1, q2, q3⟩ := h.obj j oj hj hjd
      exact ⟨lj, oj', q1, (hu.ne _ fun hg => e (h.inj j b oj o0 lj l hj hjd hb hd q1 hl hg)).trans q2, q3⟩
  · intro b1 b2 o1 o2 l1 l2 q1 d1 q2 d2
    obtain ⟨p1, r1, s1⟩ := hodd b1 o1 q1 d1
    obtain ⟨p2, r2, s2⟩ := hodd b2 o2 q2 d2
    exact h.inj b1 b2 p1 p2 l1 l2 r1 s1 r2 s2
  · intro j hj; rw [e2] at hj; exact h.fresh j hj
  · intro j lj hj; rw [hu.size]; exact h.lt j lj hj
  · intro j lj hj; rw [e1] at hj; exact h.base_ j lj hj

/-- An object goes. -/
theorem HR.kill (h : HR P G base ρ M w) {b : Nat} (hp : M.put b .dead = some M1) : HR P G base ρ M1 w := by
  obtain ⟨e1, e2, h1, h2, h3, h4⟩ := put_get hp h.small
  have hodd : ∀ j oj, M1.get j = some oj → oj ≠ .dead → M.get j = some oj := by
    intro j oj hj hjd
    by_cases e : j = b
    · subst e; rw [h3] at hj; injection hj with hj; exact absurd hj.symm hjd
    · rwa [h4 j e] at hj
  refine ⟨fun j oj hj hjd => h.obj j oj (hodd j oj hj hjd) hjd, ?_, ?_, h.lt, ?_, h.glob, by rw [e2]; exact h.small, h.bsz⟩
  · intro b1 b2 o1 o2 l1 l2 q1 d1 q2 d2
    exact h.inj b1 b2 o1 o2 l1 l2 (hodd _ _ q1 d1) d1 (hodd _ _ q2 d2) d2
  · intro j hj; rw [e2] at hj; exact h.fresh j hj
  · intro j lj hj; rw [e1] at hj; exact h.base_ j lj hj

def Ren.add (ρ : Ren) (b : Nat) (l : Loc) : Ren := fun j => if j = b then some l else ρ j
theorem Ren.add_le {ρ : Ren} {b : Nat} (l : Loc) (h : ρ b = none) : ρ.le (ρ.add b l) := by
  intro j lj hj
  by_cases e : j = b
  · subst e; rw [h] at hj; cases hj
  · simp [Ren.add, e, hj]
theorem Ren.add_at (ρ : Ren) (b : Nat) (l : Loc) : ρ.add b l b = some l := by simp [Ren.add]

/-- A new object, at a place g that no other living one has. -/
theorem HR.put_new (h : HR P G base ρ M w) {b : Nat} {o : CObj} {o' : Obj} {l : Loc} (hn : M.new o = some (b, M1)) (hb : Below base w w1) (hg : base ≤ l.g) (hlt : l.g < w1.heap.size)
    (hat : w1.heap[l.g]? = some o') (hne : ∀ i, i ≠ l.g → i < w.heap.size → w1.heap[i]? = w.heap[i]?)
    (hfree : ∀ j oj lj, M.get j = some oj → oj ≠ .dead → ρ j = some lj → lj.g ≠ l.g) (ho : OR P (ρ.add b l) l o o') :
    HR P G base (ρ.add b l) M1 w1 ∧ ρ.le (ρ.add b l) := by
  obtain ⟨rfl, e1, e2, h1, h2, h3, h4⟩ := new_get hn
  have hle : ρ.le (ρ.add M.next l) := Ren.add_le l (h.fresh _ (Nat.le_refl _))
  have hold : ∀ j oj, M1.get j = some oj → oj ≠ .dead → j ≠ M.next → ∃ lj oj', M.get j = some oj ∧ ρ j = some lj ∧ w.heap[lj.g]? = some oj' ∧ OR P ρ lj oj oj' ∧ lj.g ≠ l.g := by
    intro j oj hj hjd e
    rw [h4 j e] at hj
    obtain ⟨lj, oj', q1, q2, q3⟩ := h.obj j oj hj hjd
    exact ⟨lj, oj', hj, q1, q2, q3, hfree j oj lj hj hjd q1⟩
  refine ⟨⟨?_, ?_, ?_, ?_, ?_, h.glob.mono hle, by rw [e2]; omega, Nat.le_trans h.bsz hb.size⟩, hle⟩
  · intro j oj hj hjd
    by_cases e : j = M.next
    · subst e
      rw [h3] at hj
      injection hj with hj
      subst hj
      exact ⟨l, o', Ren.add_at _ _ _, hat, ho⟩
    · obtain ⟨lj, oj', q0, q1, q2, q3, q4⟩ := hold j oj hj hjd e
      exact ⟨lj, oj', hle _ _ q1, (hne _ q4 (h.lt j lj q1)).trans q2, q3.mono hle⟩
  · intro b1 b2 o1 o2 l1 l2 q1 d1 q2 d2 r1 r2 hgg
    by_cases f1 : b1 = M.next <;> by_cases f2 : b2 = M.next
    · rw [f1, f2]
    · exfalso
      subst f1
      rw [Ren.add_at] at r1; injection r1 with r1; subst r1
      obtain ⟨lj, _, _, p1, _, _, p4⟩ := hold b2 o2 q2 d2 f2
      have : ρ.add M.next l b2 = some lj := hle _ _ p1
      rw [this] at r2; injection r2 with r2; subst r2
      exact p4 hgg.symm
    · exfalso
      subst f2
      rw [Ren.add_at] at r2; injection r2 with r2; subst r2
      obtain ⟨lj, _, _, p1, _, _, p4⟩ := hold b1 o1 q1 d1 f1
      have : ρ.add M.next l b1 = some lj := hle _ _ p1
      rw [this] at r1; injection r1 with r1; subst r1
      exact p4 hgg
    · obtain ⟨m1, _, p0, p1, _, _, _⟩ := hold b1 o1 q1 d1 f1
      obtain ⟨m2, _, s0, s1, _, _, _⟩ := hold b2 o2 q2 d2 f2
      have t1 : ρ.add M.next l b1 = some m1 := hle _ _ p1
      have t2 : ρ.add M.next l b2 = some m2 := hle _ _ s1
      rw [t1] at r1; injection r1 with r1; subst r1
      rw [t2] at r2; injection r2 with r2; subst r2
      exact h.inj b1 b2 o1 o2 _ _ p0 d1 s0 d2 p1 s1 hgg
  · intro j hj
    rw [e2] at hj
    have : j ≠ M.next := by omega
    simp [Ren.add, this, h.fresh j (by omega)]
  · intro j lj hj
    by_cases e : j = M.next
    · subst e; rw [Ren.add_at] at hj; injection hj with hj; subst hj; exact hlt
    · simp [Ren.add, e] at hj; exact Nat.lt_of_lt_of_le (h.lt j lj hj) hb.size
  · intro j lj hlo hj
    rw [e1] at hlo
    by_cases e : j = M.next
    · subst e; rw [Ren.add_at] at hj; injection hj with hj; subst hj; exact hg
    · simp [Ren.add, e] at hj; exact h.base_ j lj hlo hj

/-- A new object in a new block. -/
theorem HR.new (h : HR P G base ρ M w) {b : Nat} {o : CObj} {o' : Obj} {l : Loc} (hn : M.new o = some (b, M1)) (hw : Nw w w1 o') (hg : l.g = w.heap.size) (ho : OR P (ρ.add b l) l o o') :
    HR P G base (ρ.add b l) M1 w1 ∧ ρ.le (ρ.add b l) ∧ Below base w w1 := by
  have hb := hw.below h.bsz
  have h2 := h.put_new hn hb (by rw [hg]; exact h.bsz) (by rw [hg, hw.size]; omega) (by rw [hg]; exact hw.at_) (fun i hi hlt => hw.ne i hlt)
    (fun j oj lj hj hjd hl e => by have := h.lt j lj hl; omega) ho
  exact ⟨h2.1, h2.2, hb⟩
end
end Go.Abs
