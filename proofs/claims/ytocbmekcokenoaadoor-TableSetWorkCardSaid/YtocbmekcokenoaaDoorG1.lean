/- The abstract machine, part 0: what is of the seat: the package-level variables that are read, with what they hold. Written by dm0.py. -/
import Derived.Tactics
import Derived.Laws.World
import Derived.Laws.Cells
import Derived.Laws.Append
import Derived.KernelRfl
import Derived.Laws.StructEq
import Derived.ChangeKeysEq
import Derived.Laws.FloatArith
import Derived.Laws.Cover2
import Derived.Laws.AppendOwn
import Derived.Laws.Rows
import Derived.Lib.UnsafeStr
import Derived.Lib.Builder
import Derived.Laws.MakeOwn
import Derived.Laws.Strings2
import Derived.Laws.Concat
import Derived.Laws.BytesString
import Derived.Laws.IdiomStrings
namespace Go.Dm
open Go
/-- The labels below NG stand for the package-level variables of these numbers; those below NB are taken. -/
def NG : Nat := 1
def NB : Nat := 1
/-- What is known of them: number, cells, type. -/
def GHL : List (Nat × List Value × TypeId) := [(0, [.int .u64 1, .int .u64 10, .int .u64 100, .int .u64 1000, .int .u64 10000, .int .u64 100000, .int .u64 1000000, .int .u64 10000000, .int .u64 100000000, .int .u64 1000000000, .int .u64 10000000000, .int .u64 100000000000, .int .u64 1000000000000, .int .u64 10000000000000, .int .u64 100000000000000, .int .u64 1000000000000000, .int .u64 10000000000000000, .int .u64 100000000000000000, .int .u64 1000000000000000000, .int .u64 10000000000000000000], 124)]
end Go.Dm
/- The abstract machine, part A: abstract values (addresses are labels), their relation to the machine's values, abstract heaps. -/
set_option linter.unusedSimpArgs false
set_option linter.unusedVariables false
namespace Go.Dm
open Go

inductive All2 {α β : Type} (R : α → β → Prop) : List α → List β → Prop
  | nil : All2 R [] []
  | cons {a b as bs} : R a b → All2 R as bs → All2 R (a :: as) (b :: bs)

namespace All2
variable {α β γ : Type} {R S : α → β → Prop}
theorem length {xs : List α} {ys : List β} (h : All2 R xs ys) : ys.length = xs.length := by
  induction h with
  | nil => rfl
  | cons _ _ ih => simp [ih]
theorem mono (hRS : ∀ a b, R a b → S a b) {xs : List α} {ys : List β} (h : All2 R xs ys) : All2 S xs ys := by
  induction h with
  | nil => exact .nil
  | cons h _ ih => exact .cons (hRS _ _ h) ih
theorem get {xs : List α} {ys : List β} (h : All2 R xs ys) : ∀ {i : Nat} {x : α}, xs[i]? = some x → ∃ y, ys[i]? = some y ∧ R x y := by
  induction h with
  | nil => intro i x h; simp at h
  | cons h _ ih =>
    intro i x hi
    cases i with
    | zero => simp at hi; subst hi; exact ⟨_, by simp, h⟩
    | succ i => simp at hi; obtain ⟨y, hy, hr⟩ := ih hi; exact ⟨y, by simpa using hy, hr⟩
theorem get' {xs : List α} {ys : List β} (h : All2 R xs ys) : ∀ {i : Nat} {y : β}, ys[i]? = some y → ∃ x, xs[i]? = some x ∧ R x y := by
  induction h with
  | nil => intro i x h; simp at h
  | cons h _ ih =>
    intro i x hi
    cases i with
    | zero => simp at hi; subst hi; exact ⟨_, by simp, h⟩
    | succ i => simp at hi; obtain ⟨y, hy, hr⟩ := ih hi; exact ⟨y, by simpa using hy, hr⟩
theorem of_get : ∀ {xs : List α} {ys : List β}, ys.length = xs.length → (∀ (i : Nat) (x : α) (y : β), xs[i]? = some x → ys[i]? = some y → R x y) → All2 R xs ys
  | [], [], _, _ => .nil
  | [], _ :: _, h, _ => by simp at h
  | _ :: _, [], h, _ => by simp at h
  | x :: xs, y :: ys, h, hr => .cons (hr 0 x y (by simp) (by simp)) (of_get (by simpa using h) fun i a b ha hb => hr (i + 1) a b (by simpa using ha) (by simpa using hb))
theorem append {xs xs' : List α} {ys ys' : List β} (h : All2 R xs ys) (h' : All2 R xs' ys') : All2 R (xs ++ xs') (ys ++ ys') := by
  induction h with
  | nil => exact h'
  | cons h _ ih => exact .cons h ih
theorem take {xs : List α} {ys : List β} (h : All2 R xs ys) : ∀ n, All2 R (xs.take n) (ys.take n) := by
  induction h with
  | nil => intro n; simp; exact .nil
  | cons h _ ih => intro n; cases n with | zero => exact .nil | succ n => exact .cons h (ih n)
theorem drop {xs : List α} {ys : List β} (h : All2 R xs ys) : ∀ n, All2 R (xs.drop n) (ys.drop n) := by
  induction h with
  | nil => intro n; simp; exact .nil
  | cons h t ih => intro n; cases n with | zero => exact .cons h t | succ n => exact ih n
theorem refl_of {R : α → α → Prop} {xs : List α} (h : ∀ x ∈ xs, R x x) : All2 R xs xs := by
  induction xs with
  | nil => exact .nil
  | cons x xs ih => exact .cons (h x (by simp)) (ih fun y hy => h y (by simp [hy]))
theorem map_left {f : γ → α} {xs : List γ} {ys : List β} (h : All2 (fun c b => R (f c) b) xs ys) : All2 R (xs.map f) ys := by
  induction h with
  | nil => exact .nil
  | cons h _ ih => exact .cons h ih
theorem eq_of {R : α → α → Prop} (hR : ∀ a b, R a b → b = a) {xs ys : List α} (h : All2 R xs ys) : ys = xs := by
  induction h with
  | nil => rfl
  | cons h _ ih => rw [hR _ _ h, ih]
end All2

/-- Where a generation of a label lies: block, first cell, how many cells there are from there on. -/
abbrev LMap := Nat → Nat → Option (Nat × Nat × Nat)
def LMap.le (m m' : LMap) : Prop := ∀ L g p, m L g = some p → m' L g = some p
theorem LMap.le_refl (m : LMap) : m.le m := fun _ _ _ h => h
theorem LMap.le_trans {a b c : LMap} (h : a.le b) (k : b.le c) : a.le c := fun _ _ _ x => k _ _ _ (h _ _ _ x)

def gen (a : Addr) : Nat := a.spot.getD 0

/-- Values that hold no place in memory, of one cell. -/
def closed0 : Value → Bool
  | .bool _ | .int .. | .float .. | .complex .. | .string _ | .pointer none | .slice none 0 0 | .map none | .chan none | .nilFunc | .nilIface => true
  | _ => false
def closed1 : Value → Bool
  | .iface _ v => closed0 v
  | .func _ first captured => first.isEmpty && captured.isEmpty
  | v => closed0 v
def closed2 : Value → Bool
  | .agg cs => cs.toList.all closed1
  | v => closed1 v
def closed3 : Value → Bool
  | .tuple vs => vs.toList.all closed2
  | v => closed2 v

/-- A slice's third number, in an abstract value: 0: its capacity is not known · 1: it is its length · k + 2: there is room for its capacity, its elements being of k cells. -/
inductive VR0 (m : LMap) : Value → Value → Prop
  | closed {v : Value} : closed0 v = true → VR0 m v v
  | ptr {a : Addr} {k o r : Nat} : m a.block (gen a) = some (k, o, r) → VR0 m (.pointer (some a)) (.pointer (some ⟨k, o + a.off, none⟩))
  | slice {a : Addr} {k o r n c c' : Nat} : m a.block (gen a) = some (k, o, r) → 0 < n → n ≤ c' → (c = 1 → c' = n) → (∀ s, c = s + 2 → a.off + c' * s ≤ r) →
      VR0 m (.slice (some a) n c) (.slice (some ⟨k, o + a.off, none⟩) n c')
  | empty {a a' : Addr} {c c' : Nat} : (c = 1 → c' = 0) → (∀ s, c ≠ s + 2) → VR0 m (.slice (some a) 0 c) (.slice (some a') 0 c')
inductive VR1 (m : LMap) : Value → Value → Prop
  | of0 {v v' : Value} : VR0 m v v' → VR1 m v v'
  | iface {t : TypeId} {v v' : Value} : VR0 m v v' → VR1 m (.iface t v) (.iface t v')
  | func {fn : Fn} {xs ys : Array Value} : All2 (VR0 m) xs.toList ys.toList → VR1 m (.func fn #[] xs) (.func fn #[] ys)
inductive VR2 (m : LMap) : Value → Value → Prop
  | of1 {v v' : Value} : VR1 m v v' → VR2 m v v'
  | agg {xs ys : Array Value} : All2 (VR1 m) xs.toList ys.toList → VR2 m (.agg xs) (.agg ys)
inductive VR3 (m : LMap) : Value → Value → Prop
  | of2 {v v' : Value} : VR2 m v v' → VR3 m v v'
  | tuple {xs ys : Array Value} : All2 (VR2 m) xs.toList ys.toList → VR3 m (.tuple xs) (.tuple ys)

theorem VR0.mono {m m' : LMap} (hm : m.le m') {v v' : Value} (h : VR0 m v v') : VR0 m' v v' := by
  cases h with
  | closed h => exact .closed h
  | ptr h => exact .ptr (hm _ _ _ h)
  | slice h a b c d => exact .slice (hm _ _ _ h) a b c d
  | empty h h' => exact .empty h h'
theorem VR1.mono {m m' : LMap} (hm : m.le m') {v v' : Value} (h : VR1 m v v') : VR1 m' v v' := by
  cases h with
  | of0 h => exact .of0 (h.mono hm)
  | iface h => exact .iface (h.mono hm)
  | func h => exact .func (h.mono fun _ _ => VR0.mono hm)
theorem VR2.mono {m m' : LMap} (hm : m.le m') {v v' : Value} (h : VR2 m v v') : VR2 m' v v' := by
  cases h with
  | of1 h => exact .of1 (h.mono hm)
  | agg h => exact .agg (h.mono fun _ _ => VR1.mono hm)
theorem VR3.mono {m m' : LMap} (hm : m.le m') {v v' : Value} (h : VR3 m v v') : VR3 m' v v' := by
  cases h with
  | of2 h => exact .of2 (h.mono hm)
  | tuple h => exact .tuple (h.mono fun _ _ => VR2.mono hm)

/-- What was related under the smaller map, and is related under the greater one to another value, is related to that one under the smaller. -/
theorem VR0.back {m m' : LMap} (hm : m.le m') {v v0 v' : Value} (h0 : VR0 m v v0) (h : VR0 m' v v') : VR0 m v v' := by
  cases h0 with
  | closed hc =>
    cases h with
    | closed _ => exact .closed hc
    | ptr _ => simp [closed0] at hc
    | slice _ _ _ _ _ => simp [closed0] at hc
    | empty _ _ => simp [closed0] at hc
  | ptr h1 =>
    cases h with
    | closed hc => simp [closed0] at hc
    | ptr h2 => rw [hm _ _ _ h1] at h2; cases h2; exact .ptr h1
  | slice h1 _ _ _ _ =>
    cases h with
    | closed hc => simp [closed0] at hc
    | slice h2 a b c d => rw [hm _ _ _ h1] at h2; cases h2; exact .slice h1 a b c d
    | empty => contradiction
  | empty a b =>
    cases h with
    | closed hc => simp [closed0] at hc
    | slice => contradiction
    | empty c d => exact .empty c d
theorem All2.back {R S T : Value → Value → Prop} (hst : ∀ v v0 v', R v v0 → S v v' → T v v') {xs ys zs : List Value} (h : All2 R xs ys) (k : All2 S xs zs) : All2 T xs zs := by
  induction h generalizing zs with
  | nil => cases k; exact .nil
  | cons h _ ih => cases k with | cons k1 k2 => exact .cons (hst _ _ _ h k1) (ih k2)
theorem VR1.back {m m' : LMap} (hm : m.le m') {v v0 v' : Value} (h0 : VR1 m v v0) (h : VR1 m' v v') : VR1 m v v' := by
  cases h0 with
  | of0 h0 =>
    cases h with
    | of0 h => exact .of0 (h0.back hm h)
    | iface hc => cases h0 with | closed hc => simp [closed0] at hc
    | func hc => cases h0 with | closed hc => simp [closed0] at hc
  | iface h0 => cases h with
    | of0 h => cases h with | closed hc => simp [closed0] at hc
    | iface h => exact .iface (h0.back hm h)
  | func h1 => cases h with
    | of0 h => cases h with | closed hc => simp [closed0] at hc
    | func h2 => exact .func (All2.back (T := VR0 m) (fun _ _ _ => VR0.back hm) h1 h2)
theorem VR2.back {m m' : LMap} (hm : m.le m') {v v0 v' : Value} (h0 : VR2 m v v0) (h : VR2 m' v v') : VR2 m v v' := by
  cases h0 with
  | of1 h0 =>
    cases h with
    | of1 h => exact .of1 (h0.back hm h)
    | agg hc => cases h0 with | of0 h0 => cases h0 with | closed hc => simp [closed0] at hc
  | agg h1 => cases h with
    | of1 h => cases h with | of0 h => cases h with | closed hc => simp [closed0] at hc
    | agg h2 => exact .agg (All2.back (T := VR1 m) (fun _ _ _ => VR1.back hm) h1 h2)

/-! Closed values are related to themselves alone. -/
theorem VR0.eq {m : LMap} {v v' : Value} (h : VR0 m v v') (hc : closed0 v = true) : v' = v := by
  cases h with
  | closed _ => rfl
  | ptr _ => simp [closed0] at hc
  | slice _ _ _ _ _ => simp [closed0] at hc
  | empty _ _ => simp [closed0] at hc
theorem VR1.eq {m : LMap} {v v' : Value} (h : VR1 m v v') (hc : closed1 v = true) : v' = v := by
  cases h with
  | of0 h => exact h.eq (by
      cases h with
      | closed h => exact h
      | ptr _ => simp [closed1, closed0] at hc
      | slice _ _ _ _ _ => simp [closed1, closed0] at hc
      | empty _ _ => simp [closed1, closed0] at hc)
  | iface h => rw [h.eq (by simpa [closed1] using hc)]
  | @func fn xs ys h =>
    simp [closed1] at hc
    subst hc
    have := h.length
    simp at this
    have : ys = #[] := by apply Array.eq_empty_of_size_eq_zero; simpa using this
    subst this; rfl
theorem All2.eq_closed {R : Value → Value → Prop} {cl : Value → Bool} (hR : ∀ v v', R v v' → cl v = true → v' = v) {xs ys : List Value} (h : All2 R xs ys) (hc : xs.all cl = true) : ys = xs := by
  induction h with
  | nil => rfl
  | cons h _ ih =>
    simp at hc
    rw [hR _ _ h hc.1, ih (by simpa using hc.2)]
theorem VR2.eq {m : LMap} {v v' : Value} (h : VR2 m v v') (hc : closed2 v = true) : v' = v := by
  cases h with
  | of1 h => refine h.eq ?_; cases h with
    | of0 h => cases h with
      | closed h => revert h; cases v <;> simp [closed0, closed1]
      | ptr _ => simp [closed2, closed1, closed0] at hc
      | slice _ _ _ _ _ => simp [closed2, closed1, closed0] at hc
      | empty _ _ => simp [closed2, closed1, closed0] at hc
    | iface h => simpa [closed2] using hc
    | func h => simpa [closed2] using hc
  | @agg xs ys h =>
    have := h.eq_closed (fun _ _ => VR1.eq) (by simpa [closed2] using hc)
    rw [Array.toList_inj.1 this]
theorem closed_nest1 {v : Value} (h : closed0 v = true) : closed1 v = true := by revert h; cases v <;> simp [closed0, closed1]
theorem closed_nest2 {v : Value} (h : closed1 v = true) : closed2 v = true := by revert h; cases v <;> simp [closed0, closed1, closed2]
theorem VR1.not_agg {m : LMap} {xs : Array Value} {v' : Value} : ¬ VR1 m (.agg xs) v' := by
  intro h; cases h with | of0 h => cases h with | closed h => simp [closed0] at h
theorem VR1.not_tuple {m : LMap} {xs : Array Value} {v' : Value} : ¬ VR1 m (.tuple xs) v' := by
  intro h; cases h with | of0 h => cases h with | closed h => simp [closed0] at h
theorem VR2.not_tuple {m : LMap} {xs : Array Value} {v' : Value} : ¬ VR2 m (.tuple xs) v' := by
  intro h; cases h with | of1 h => exact VR1.not_tuple h
theorem VR3.eq {m : LMap} {v v' : Value} (h : VR3 m v v') (hc : closed3 v = true) : v' = v := by
  cases h with
  | of2 h =>
    cases v with
    | tuple xs => exact absurd h VR2.not_tuple
    | _ => exact h.eq hc
  | @tuple xs ys h =>
    have := h.eq_closed (fun _ _ => VR2.eq) (by simpa [closed3] using hc)
    rw [Array.toList_inj.1 this]
theorem VR1.refl {m : LMap} {v : Value} (hc : closed1 v = true) : VR1 m v v := by
  cases v with
  | func fn first captured =>
    simp [closed1] at hc
    obtain ⟨rfl, rfl⟩ := hc; exact .func .nil
  | iface t v => exact .iface (.closed hc)
  | _ => exact .of0 (.closed hc)
theorem VR2.refl {m : LMap} {v : Value} (hc : closed2 v = true) : VR2 m v v := by
  cases v with
  | agg cs => exact .agg (All2.refl_of fun x hx => VR1.refl (by simp only [closed2, List.all_eq_true] at hc; exact hc x hx))
  | _ => exact .of1 (VR1.refl hc)
theorem VR3.refl {m : LMap} {v : Value} (hc : closed3 v = true) : VR3 m v v := by
  cases v with
  | tuple cs => exact .tuple (All2.refl_of fun x hx => VR2.refl (by simp only [closed3, List.all_eq_true] at hc; exact hc x hx))
  | _ => exact .of2 (VR2.refl hc)
theorem VR1.up {m : LMap} {v v' : Value} (h : VR1 m v v') : VR3 m v v' := .of2 (.of1 h)

/-! One cell. -/
theorem VR1.oneCell {m : LMap} {v v' : Value} (h : VR1 m v v') : v'.oneCell' = true := by
  cases h with
  | of0 h => cases h with
    | closed h => revert h; cases v <;> simp [closed0, Value.oneCell']
    | _ => rfl
  | _ => rfl
theorem VR1.cells {m : LMap} {v v' : Value} (h : VR1 m v v') : v.cells = #[v] ∧ v'.cells = #[v'] := by
  cases h with
  | of0 h => cases h with
    | closed h => revert h; cases v <;> simp [closed0, Value.cells]
    | _ => exact ⟨rfl, rfl⟩
  | _ => exact ⟨rfl, rfl⟩
/-- A value's cells. -/
theorem VR2.cells {m : LMap} {v v' : Value} (h : VR2 m v v') : All2 (VR1 m) v.cells.toList v'.cells.toList := by
  cases h with
  | of1 h => rw [h.cells.1, h.cells.2]; exact .cons h .nil
  | agg h => exact h

/-! ### Heaps -/
structure Blk where
  cells : List Value
  elem : TypeId
  gen : Nat
  own : Bool
abbrev Heap := Nat → Option Blk

/-- The package-level variables lie where their labels say, and hold what is known of them. -/
def GL (m : LMap) : Prop := ∀ g, g < NG → ∃ r, m g 0 = some (g, 0, r)
theorem GL.mono {m m' : LMap} (h : GL m) (hm : m.le m') : GL m' := fun g hg => by obtain ⟨r, hr⟩ := h g hg; exact ⟨r, hm _ _ _ hr⟩
def gfind : List (Nat × List Value × TypeId) → Nat → Option Blk
  | [], _ => none
  | (g, c, e) :: r, L => if L = g then some ⟨c, e, 0, false⟩ else gfind r L
def GH (L : Nat) : Option Blk := gfind GHL L
/-- A value that speaks of no label but the lowest. -/
def lowV (v : Value) : Bool := closed1 v || match v with | .iface _ (.pointer (some a)) => decide (a.block < NB) | _ => false
theorem ghl_ok : (GHL.all fun p => decide (p.1 < NG) && p.2.1.all lowV) = true := by kernel_rfl
theorem ng_nb : NG ≤ NB := Nat.le_of_ble_eq_true rfl
theorem GH_mem {L : Nat} {b : Blk} (h : GH L = some b) : L < NG ∧ b.own = false ∧ b.gen = 0 ∧ b.cells.all lowV = true := by
  have key : ∀ l : List (Nat × List Value × TypeId), (l.all fun p => decide (p.1 < NG) && p.2.1.all lowV) = true → gfind l L = some b → L < NG ∧ b.own = false ∧ b.gen = 0 ∧ b.cells.all lowV = true := by
    intro l
    induction l with
    | nil => intro _ h; cases h
    | cons p r ih =>
      obtain ⟨g, c, e⟩ := p
      intro hl h
      simp only [List.all_cons, Bool.and_eq_true, decide_eq_true_eq] at hl
      simp only [gfind] at h
      split at h
      · rename_i hg; subst hg; cases h; exact ⟨hl.1.1, rfl, rfl, hl.1.2⟩
      · exact ih hl.2 h
  exact key GHL ghl_ok h
theorem GH_lt {g : Nat} {b : Blk} (h : GH g = some b) : g < NG := (GH_mem h).1
theorem GH_own {g : Nat} {b : Blk} (h : GH g = some b) : b.own = false := (GH_mem h).2.1
structure HRel (h : Heap) (m : LMap) (w : World) : Prop where
  blk : ∀ L b, h L = some b → ∃ k o r c fr, m L b.gen = some (k, o, r) ∧ w.heap[k]? = some (.cells c b.elem fr) ∧ (b.own = true → fr = (0, 0) ∧ o = 0) ∧ o + r = c.size ∧ b.cells.length ≤ r ∧
    ∀ j v, b.cells[j]? = some v → ∃ v', c[o + j]? = some v' ∧ VR1 m v v'
  sep : ∀ L1 L2 b1 b2 k1 o1 r1 k2 o2 r2, L1 ≠ L2 → h L1 = some b1 → h L2 = some b2 → b1.own = true → m L1 b1.gen = some (k1, o1, r1) → m L2 b2.gen = some (k2, o2, r2) → k1 ≠ k2
  inb : ∀ L g k o r, m L g = some (k, o, r) → k < w.heap.size
  gens : ∀ L b g p, h L = some b → m L g = some p → g ≤ b.gen
  gl : GL m
  gh : ∀ g b, GH g = some b → h g = some b

/-- What a stretch of a run may do. -/
structure Step (h : Heap) (m : LMap) (w : World) (h' : Heap) (m' : LMap) (w' : World) : Prop where
  le : m.le m'
  os : w'.os = w.os
  tape : w'.tape = w.tape
  output : w'.output = w.output
  size : w.heap.size ≤ w'.heap.size
  frame : ∀ i, i < w.heap.size → (∀ L b o r, h L = some b → b.own = true → m L b.gen ≠ some (i, o, r)) → w'.heap[i]? = w.heap[i]?
  prov : ∀ L b k o r, h' L = some b → b.own = true → m' L b.gen = some (k, o, r) → k < w.heap.size → ∃ L1 b1 o1 r1, h L1 = some b1 ∧ b1.own = true ∧ m L1 b1.gen = some (k, o1, r1)

theorem Step.refl (h : Heap) (m : LMap) (w : World) : Step h m w h m w :=
  ⟨m.le_refl, rfl, rfl, rfl, Nat.le_refl _, fun _ _ _ => rfl, fun L b k o r a b' c _ => ⟨L, b, o, r, a, b', c⟩⟩
theorem Step.trans {h1 h2 h3 : Heap} {m1 m2 m3 : LMap} {w1 w2 w3 : World} (a : Step h1 m1 w1 h2 m2 w2) (b : Step h2 m2 w2 h3 m3 w3) : Step h1 m1 w1 h3 m3 w3 where
  le := LMap.le_trans a.le b.le
  os := b.os.trans a.os
  tape := b.tape.trans a.tape
  output := b.output.trans a.output
  size := Nat.le_trans a.size b.size
  frame i hi hn := by
    rw [b.frame i (Nat.lt_of_lt_of_le hi a.size) ?_, a.frame i hi hn]
    intro L bl o r hL ho hm
    obtain ⟨L1, b1, o1, r1, x, y, z⟩ := a.prov L bl i o r hL ho hm hi
    exact hn L1 b1 o1 r1 x y z
  prov L bl k o r hL ho hm hk := by
    obtain ⟨L1, b1, o1, r1, x, y, z⟩ := b.prov L bl k o r hL ho hm (Nat.lt_of_lt_of_le hk a.size)
    exact a.prov L1 b1 k o1 r1 x y z hk

def upd (h : Heap) (L : Nat) (b : Blk) : Heap := fun L' => if L' = L then some b else h L'
@[simp] theorem upd_same (h : Heap) (L : Nat) (b : Blk) : upd h L b L = some b := by simp [upd]
theorem upd_ne (h : Heap) {L L' : Nat} (b : Blk) (hne : L' ≠ L) : upd h L b L' = h L' := by simp [upd, hne]
def updm (m : LMap) (L g : Nat) (p : Nat × Nat × Nat) : LMap := fun L' g' => if L' = L ∧ g' = g then some p else m L' g'
theorem le_updm {m : LMap} {L g : Nat} {p : Nat × Nat × Nat} (h : m L g = none ∨ m L g = some p) : m.le (updm m L g p) := by
  intro L' g' q hq
  unfold updm
  split
  · rename_i e; obtain ⟨rfl, rfl⟩ := e; rcases h with h | h
    · rw [h] at hq; cases hq
    · rw [h] at hq; exact hq
  · exact hq
end Go.Dm
/- The abstract machine, part B: reading, writing and making memory. -/
set_option linter.unusedSimpArgs false
set_option linter.unusedVariables false
namespace Go.Dm
open Go

theorem add_at (k x j : Nat) : (⟨k, x, none⟩ : Addr).add j = ⟨k, x + j, none⟩ := by
  unfold Addr.add; split <;> simp_all

def setBlk (w : World) (k : Nat) (c : Array Value) (e : TypeId) : World := { w with heap := w.heap.setIfInBounds k (.cells c e (0, 0)) }
theorem setBlk_size (w : World) (k : Nat) (c : Array Value) (e : TypeId) : (setBlk w k c e).heap.size = w.heap.size := by simp [setBlk]
theorem setBlk_same {w : World} {k : Nat} (c : Array Value) (e : TypeId) (hk : k < w.heap.size) : (setBlk w k c e).heap[k]? = some (.cells c e (0, 0)) := by
  simp [setBlk, hk]
theorem setBlk_ne (w : World) {k i : Nat} (c : Array Value) (e : TypeId) (hne : i ≠ k) : (setBlk w k c e).heap[i]? = w.heap[i]? := by
  simp only [setBlk, Array.getElem?_setIfInBounds]
  rw [if_neg (fun h => hne h.symm)]
theorem setBlk_self {w : World} {k : Nat} {c : Array Value} {e : TypeId} (h : w.heap[k]? = some (.cells c e (0, 0))) : setBlk w k c e = w := by
  have : w.heap.setIfInBounds k (.cells c e (0, 0)) = w.heap := by
    apply Array.ext_getElem?
    intro i
    simp only [Array.getElem?_setIfInBounds]
    split
    · rename_i hi; subst hi; split
      · exact h.symm
      · rename_i hs; rw [Array.getElem?_eq_none (by omega)]
    · rfl
  simp [setBlk, this]
theorem setBlk_setBlk (w : World) (k : Nat) (c c' : Array Value) (e e' : TypeId) : setBlk (setBlk w k c e) k c' e' = setBlk w k c' e' := by
  simp [setBlk]
theorem setCell_eq {w : World} {k x : Nat} {c : Array Value} {e : TypeId} (h : w.heap[k]? = some (.cells c e (0, 0))) (v : Value) :
    w.setCell ⟨k, x, none⟩ v = setBlk w k (c.setIfInBounds x v) e := by
  have hk : k < w.heap.size := (Array.getElem?_eq_some_iff.1 h).1
  have hv : w.heap[k] = .cells c e (0, 0) := (Array.getElem?_eq_some_iff.1 h).2
  simp only [World.setCell, setBlk]
  congr 1
  apply Array.ext_getElem?
  intro i
  simp only [Array.getElem?_modify, Array.getElem?_setIfInBounds]
  split
  · rename_i hi; subst hi; simp [hk, hv]
  · rfl

/-- A stretch of an array laid anew. -/
def setRange (c : Array Value) : Nat → List Value → Array Value
  | _, [] => c
  | p, v :: vs => setRange (c.setIfInBounds p v) (p + 1) vs
theorem setRange_size : ∀ (vs : List Value) (c : Array Value) (p : Nat), (setRange c p vs).size = c.size
  | [], _, _ => rfl
  | v :: vs, c, p => by simp [setRange, setRange_size vs]
theorem setRange_get : ∀ (vs : List Value) (c : Array Value) (p j : Nat), p + vs.length ≤ c.size →
    (setRange c p vs)[j]? = if p ≤ j ∧ j < p + vs.length then vs[j - p]? else c[j]?
  | [], c, p, j, _ => by simp [setRange]; omega
  | v :: vs, c, p, j, h => by
    simp only [List.length_cons] at h
    rw [setRange, setRange_get vs _ (p + 1) j (by simp; omega)]
    by_cases h1 : p + 1 ≤ j ∧ j < p + 1 + vs.length
    · rw [if_pos h1, if_pos (by simp; omega)]
      obtain ⟨i, rfl⟩ : ∃ i, j = p + 1 + i := ⟨j - (p + 1), by omega⟩
      rw [show p + 1 + i - p = i + 1 by omega, show p + 1 + i - (p + 1) = i by omega]
      simp
    · rw [if_neg h1]
      simp only [Array.getElem?_setIfInBounds]
      by_cases hj : p = j
      · subst hj; rw [if_pos rfl, if_pos (by omega), if_pos (by simp)]; simp
      · rw [if_neg hj, if_neg (by simp; omega)]

theorem run_storeCells {P : Program} {k x : Nat} {e : TypeId} : ∀ (vs : List Value) (i : Nat) (w : World) (c : Array Value), w.heap[k]? = some (.cells c e (0, 0)) →
    x + i + vs.length ≤ c.size → (∀ v ∈ vs, v.oneCell' = true) → (storeCells ⟨k, x, none⟩ vs i).run P w = .ok () (setBlk w k (setRange c (x + i) vs) e)
  | [], i, w, c, h, _, _ => by simp [storeCells, setRange, setBlk_self h]
  | v :: vs, i, w, c, h, hs, h1 => by
    simp only [List.length_cons] at hs
    have hk : k < w.heap.size := (Array.getElem?_eq_some_iff.1 h).1
    have hc : w.cell? ⟨k, x + i, none⟩ = some (c[x + i]'(by omega)) := by
      simp [World.cell?, h, Array.getElem?_eq_getElem (show x + i < c.size by omega)]
    have hf : w.frozen? ⟨k, x + i, none⟩ = false := by simp [World.frozen?, h]
    have ih := run_storeCells (P := P) (k := k) (x := x) (e := e) vs (i + 1) (setBlk w k (c.setIfInBounds (x + i) v) e) (c.setIfInBounds (x + i) v) (setBlk_same _ _ hk) (by simp; omega) (fun u hu => h1 u (by simp [hu]))
    simp only [storeCells, Sem.run_bind, add_at, run_store P w _ v _ (h1 v (by simp)), hc, hf, Bool.false_eq_true, if_false, Result.andThen_ok, setCell_eq h]
    rw [ih, setBlk_setBlk]
    simp [setRange, Nat.add_assoc]

/-! ### What an abstract heap says of the world -/
variable {h : Heap} {m : LMap} {w : World}
theorem HRel.gh_upd (H : HRel h m w) {L : Nat} {b : Blk} (hL : h L = some b) (ho : b.own = true) {b' : Blk} : ∀ g x, GH g = some x → upd h L b' g = some x := by
  intro g x hx
  by_cases e : g = L
  · subst e
    have := H.gh g x hx
    rw [hL] at this; cases this
    rw [GH_own hx] at ho; cases ho
  · rw [upd_ne _ _ e]; exact H.gh g x hx
theorem HRel.gh_new (H : HRel h m w) {L : Nat} (hfr : ∀ g, m L g = none) {b' : Blk} : ∀ g x, GH g = some x → upd h L b' g = some x := by
  intro g x hx
  by_cases e : g = L
  · subst e
    obtain ⟨r, hr⟩ := H.gl g (GH_lt hx)
    rw [hfr] at hr; cases hr
  · rw [upd_ne _ _ e]; exact H.gh g x hx
theorem HRel.row (H : HRel h m w) {L : Nat} {b : Blk} (hL : h L = some b) {k o r : Nat} (hm : m L b.gen = some (k, o, r)) :
    ∃ c fr, w.heap[k]? = some (.cells c b.elem fr) ∧ (b.own = true → fr = (0, 0) ∧ o = 0) ∧ o + r = c.size ∧ b.cells.length ≤ r ∧ ∀ j v, b.cells[j]? = some v → ∃ v', c[o + j]? = some v' ∧ VR1 m v v' := by
  obtain ⟨k1, o1, r1, c, fr, h1, h2, h3, h4, h5⟩ := H.blk L b hL
  rw [hm] at h1; cases h1
  exact ⟨c, fr, h2, h3, h4, h5⟩
theorem HRel.cell (H : HRel h m w) {L : Nat} {b : Blk} (hL : h L = some b) {k o r : Nat} (hm : m L b.gen = some (k, o, r)) {j : Nat} {v : Value} (hj : b.cells[j]? = some v) :
    ∃ v', w.cell? ⟨k, o + j, none⟩ = some v' ∧ VR1 m v v' := by
  obtain ⟨c, fr, hc, _, _, _, hcs⟩ := H.row hL hm
  obtain ⟨v', hv, hr⟩ := hcs j v hj
  exact ⟨v', by simp [World.cell?, hc, hv], hr⟩
/-- A stretch of cells, read. -/
theorem HRel.range (H : HRel h m w) {L : Nat} {b : Blk} (hL : h L = some b) {k o r : Nat} (hm : m L b.gen = some (k, o, r)) (off n : Nat) (hn : off + n ≤ b.cells.length) :
    ∃ vs : List Value, All2 (VR1 m) ((b.cells.drop off).take n) vs ∧ ∀ j v, vs[j]? = some v → w.cell? ((⟨k, o + off, none⟩ : Addr).add j) = some v := by
  induction n with
  | zero => exact ⟨[], by simp; exact .nil, by simp⟩
  | succ n ih =>
    obtain ⟨vs, h1, h2⟩ := ih (by omega)
    obtain ⟨v', h3, h4⟩ := H.cell hL hm (j := off + n) (v := b.cells[off + n]'(by omega)) (by simp)
    refine ⟨vs ++ [v'], ?_, ?_⟩
    · have e : (b.cells.drop off).take (n + 1) = (b.cells.drop off).take n ++ [b.cells[off + n]'(by omega)] := by
        rw [List.take_succ_eq_append_getElem (by simp; omega)]; simp
      rw [e]; exact h1.append (.cons h4 .nil)
    · have hl : vs.length = n := by have := h1.length; simp at this; omega
      intro j v hj
      rw [add_at]
      by_cases hjn : j < n
      · rw [List.getElem?_append_left (by omega)] at hj
        have := h2 j v hj; rwa [add_at] at this
      · rw [List.getElem?_append_right (by omega)] at hj
        have : j - vs.length = 0 := by
          rcases Nat.eq_zero_or_pos (j - vs.length) with h | h
          · exact h
          · rw [List.getElem?_eq_none (by simp; omega)] at hj; cases hj
        rw [this] at hj; simp at hj; subst hj
        rw [show o + off + j = o + (off + n) by omega]; exact h3
theorem All2.oneCells {R : Value → Value → Prop} (hR : ∀ a b, R a b → b.oneCell' = true) {xs ys : List Value} (h : All2 R xs ys) : ∀ y ∈ ys, y.oneCell' = true := by
  induction h with
  | nil => simp
  | cons h _ ih => intro y hy; rcases List.mem_cons.1 hy with rfl | hy; exact hR _ _ h; exact ih y hy

/-- The list with a stretch laid anew. -/
def putAt (cs : List Value) (off : Nat) (vs : List Value) : List Value := cs.take off ++ vs ++ cs.drop (off + vs.length)
theorem putAt_length (cs : List Value) (off : Nat) (vs : List Value) (h : off + vs.length ≤ cs.length) : (putAt cs off vs).length = cs.length := by simp [putAt]; omega
theorem putAt_get (cs : List Value) (off : Nat) (vs : List Value) (h : off + vs.length ≤ cs.length) (j : Nat) :
    (putAt cs off vs)[j]? = if off ≤ j ∧ j < off + vs.length then vs[j - off]? else cs[j]? := by
  unfold putAt
  by_cases h1 : j < off
  · rw [List.append_assoc, List.getElem?_append_left (by simp; omega), List.getElem?_take, if_pos h1, if_neg (by omega)]
  · by_cases h2 : j < off + vs.length
    · rw [List.append_assoc, List.getElem?_append_right (by simp; omega), List.getElem?_append_left (by simp; omega), if_pos ⟨by omega, h2⟩]
      congr 1; simp; omega
    · rw [List.getElem?_append_right (by simp; omega), if_neg (by omega), List.getElem?_drop]
      congr 1; simp; omega

/-- A store of a stretch of cells. -/
theorem HRel.store (H : HRel h m w) {L : Nat} {b : Blk} (hL : h L = some b) (ho : b.own = true) {k o r : Nat} (hm : m L b.gen = some (k, o, r)) (off : Nat) (vs vs' : List Value)
    (hn : off + vs.length ≤ b.cells.length) (hv : All2 (VR1 m) vs vs') (P : Program) :
    ∃ w', (storeCells ⟨k, o + off, none⟩ vs').run P w = .ok () w' ∧ HRel (upd h L { b with cells := putAt b.cells off vs }) m w' ∧ Step h m w (upd h L { b with cells := putAt b.cells off vs }) m w' := by
  obtain ⟨c, fr, hc, hfr, hsz, hlen, hcs⟩ := H.row hL hm
  obtain ⟨hfr, ho0⟩ := hfr ho; subst hfr
  have hk : k < w.heap.size := (Array.getElem?_eq_some_iff.1 hc).1
  have hl := hv.length
  have hfit : o + off + vs'.length ≤ c.size := by omega
  refine ⟨setBlk w k (setRange c (o + off) vs') b.elem, by simpa using run_storeCells (P := P) vs' 0 w c hc (by omega) (hv.oneCells fun _ _ => VR1.oneCell), ⟨?_, ?_, ?_, ?_, H.gl, H.gh_upd hL ho⟩, ?_⟩
  · intro L1 b1 h1
    by_cases e : L1 = L
    · subst e; simp at h1; subst h1
      refine ⟨k, o, r, _, (0, 0), hm, setBlk_same _ _ hk, fun _ => ⟨rfl, ho0⟩, by rw [setRange_size]; exact hsz, by simp only; rw [putAt_length _ _ _ hn]; exact hlen, ?_⟩
      intro j v hj
      simp only at hj
      rw [putAt_get _ _ _ hn] at hj
      rw [setRange_get _ _ _ _ hfit]
      by_cases hin : off ≤ j ∧ j < off + vs.length
      · rw [if_pos hin] at hj
        rw [if_pos (by omega), show o + j - (o + off) = j - off by omega]
        exact hv.get hj
      · rw [if_neg hin] at hj
        rw [if_neg (by omega)]
        exact hcs j v hj
    · rw [upd_ne _ _ e] at h1
      obtain ⟨k1, o1, r1, c1, fr1, g1, g2, g3⟩ := H.blk L1 b1 h1
      refine ⟨k1, o1, r1, c1, fr1, g1, ?_, g3⟩
      rw [setBlk_ne _ _ _ (fun hh => H.sep L L1 b b1 k o r k1 o1 r1 (Ne.symm e) hL h1 ho hm g1 hh.symm)]
      exact g2
  · intro L1 L2 b1 b2 k1 o1 r1 k2 o2 r2 hne g1 g2 g3 g4 g5
    have f : ∀ L' b', upd h L { b with cells := putAt b.cells off vs } L' = some b' → ∃ b0, h L' = some b0 ∧ b0.gen = b'.gen ∧ b0.own = b'.own := by
      intro L' b' hh
      by_cases e : L' = L
      · subst e; simp at hh; subst hh; exact ⟨b, hL, rfl, rfl⟩
      · rw [upd_ne _ _ e] at hh; exact ⟨b', hh, rfl, rfl⟩
    obtain ⟨c1, x1, y1, z1⟩ := f L1 b1 g1
    obtain ⟨c2, x2, y2, z2⟩ := f L2 b2 g2
    exact H.sep L1 L2 c1 c2 k1 o1 r1 k2 o2 r2 hne x1 x2 (z1.trans g3) (y1 ▸ g4) (y2 ▸ g5)
  · intro L1 g k1 o1 r1 hh; rw [setBlk_size]; exact H.inb L1 g k1 o1 r1 hh
  · intro L1 b1 g p h1 hh
    by_cases e : L1 = L
    · subst e; simp at h1; subst h1; exact H.gens L1 b g p hL hh
    · rw [upd_ne _ _ e] at h1; exact H.gens L1 b1 g p h1 hh
  · refine ⟨m.le_refl, rfl, rfl, rfl, by rw [setBlk_size]; exact Nat.le_refl _, ?_, ?_⟩
    · intro i hi hno
      exact setBlk_ne _ _ _ (fun e => hno L b o r hL ho (e ▸ hm))
    · intro L1 b1 k1 o1 r1 h1 ho1 hm1 _
      by_cases e : L1 = L
      · subst e; simp at h1; subst h1; exact ⟨L1, b, o1, r1, hL, ho, hm1⟩
      · rw [upd_ne _ _ e] at h1; exact ⟨L1, b1, o1, r1, h1, ho1, hm1⟩

/-- A new block. -/
theorem HRel.alloc (H : HRel h m w) (L : Nat) (hfr : ∀ g, m L g = none) (cs : List Value) (cs' : Array Value) (e : TypeId) (rest : List Value) (hc : All2 (VR1 m) cs cs'.toList) :
    HRel (upd h L ⟨cs, e, 0, true⟩) (updm m L 0 (w.heap.size, 0, cs'.size + rest.length)) (w.alloc (.cells (cs' ++ rest.toArray) e)) ∧
    Step h m w (upd h L ⟨cs, e, 0, true⟩) (updm m L 0 (w.heap.size, 0, cs'.size + rest.length)) (w.alloc (.cells (cs' ++ rest.toArray) e)) := by
  have hle : m.le (updm m L 0 (w.heap.size, 0, cs'.size + rest.length)) := le_updm (.inl (hfr 0))
  have hnew : (w.alloc (.cells (cs' ++ rest.toArray) e)).heap[w.heap.size]? = some (.cells (cs' ++ rest.toArray) e (0, 0)) := by show (w.heap.push _)[w.heap.size]? = _; simp
  have hold : ∀ i, i < w.heap.size → (w.alloc (.cells (cs' ++ rest.toArray) e)).heap[i]? = w.heap[i]? := by
    intro i hi; show (w.heap.push _)[i]? = _; rw [Array.getElem?_push, if_neg (by omega)]
  have hhL : h L = none := by
    cases hh : h L with
    | none => rfl
    | some b => obtain ⟨k, o, r, _, _, g1, _⟩ := H.blk L b hh; rw [hfr] at g1; cases g1
  have hm' : ∀ {L1 g p}, L1 ≠ L → updm m L 0 (w.heap.size, 0, cs'.size + rest.length) L1 g = some p → m L1 g = some p := by
    intro L1 g p hne hh; unfold updm at hh; rwa [if_neg (fun x => hne x.1)] at hh
  refine ⟨⟨?_, ?_, ?_, ?_, H.gl.mono hle, H.gh_new hfr⟩, ⟨hle, rfl, rfl, rfl, by simp, fun i hi _ => hold i hi, ?_⟩⟩
  · intro L1 b1 h1
    by_cases he : L1 = L
    · subst he; simp at h1; subst h1
      refine ⟨w.heap.size, 0, cs'.size + rest.length, _, (0, 0), by simp [updm], hnew, fun _ => ⟨rfl, rfl⟩, by simp, by have := hc.length; simp at this ⊢; omega, ?_⟩
      intro j v hj
      obtain ⟨v', hv, hr⟩ := hc.get hj
      refine ⟨v', ?_, hr.mono hle⟩
      have hlt : j < cs'.size := by
        have := List.getElem?_eq_some_iff.1 hv; obtain ⟨hx, _⟩ := this; simpa using hx
      rw [Nat.zero_add, Array.getElem?_append_left hlt]
      simpa using hv
    · rw [upd_ne _ _ he] at h1
      obtain ⟨k1, o1, r1, c1, fr1, g1, g2, g3, g4, g5, g6⟩ := H.blk L1 b1 h1
      refine ⟨k1, o1, r1, c1, fr1, hle _ _ _ g1, ?_, g3, g4, g5, fun j v hj => ?_⟩
      · rw [hold k1 (H.inb _ _ _ _ _ g1)]; exact g2
      · obtain ⟨v', x, y⟩ := g6 j v hj; exact ⟨v', x, y.mono hle⟩
  · intro L1 L2 b1 b2 k1 o1 r1 k2 o2 r2 hne g1 g2 g3 g4 g5
    by_cases e1 : L1 = L
    · subst e1; simp at g1; subst g1
      simp [updm] at g4
      rw [upd_ne _ _ (Ne.symm hne)] at g2
      have := H.inb _ _ _ _ _ (hm' (Ne.symm hne) g5)
      omega
    · rw [upd_ne _ _ e1] at g1
      have g4' := hm' e1 g4
      by_cases e2 : L2 = L
      · subst e2; simp at g2; subst g2
        simp [updm] at g5
        have := H.inb _ _ _ _ _ g4'
        omega
      · rw [upd_ne _ _ e2] at g2
        exact H.sep L1 L2 b1 b2 k1 o1 r1 k2 o2 r2 hne g1 g2 g3 g4' (hm' e2 g5)
  · intro L1 g k1 o1 r1 hh
    unfold updm at hh
    split at hh
    · cases hh; simp
    · have := H.inb _ _ _ _ _ hh; simp; omega
  · intro L1 b1 g p h1 hh
    by_cases he : L1 = L
    · subst he; simp at h1; subst h1
      unfold updm at hh; split at hh
      · rename_i x; simp [x.2]
      · rw [hfr] at hh; cases hh
    · rw [upd_ne _ _ he] at h1; exact H.gens L1 b1 g p h1 (hm' he hh)
  · intro L1 b1 k1 o1 r1 h1 ho1 hm1 hk
    by_cases he : L1 = L
    · subst he; simp at h1; subst h1; simp [updm] at hm1; omega
    · rw [upd_ne _ _ he] at h1; exact ⟨L1, b1, o1, r1, h1, ho1, hm' he hm1⟩

/-- More cells behind a row's last one, in the room that it has. -/
theorem HRel.grow (H : HRel h m w) {L : Nat} {b : Blk} (hL : h L = some b) (ho : b.own = true) {k o r : Nat} (hm : m L b.gen = some (k, o, r)) (vs vs' : List Value)
    (hn : b.cells.length + vs.length ≤ r) (hv : All2 (VR1 m) vs vs') (P : Program) :
    ∃ w', (storeCells ⟨k, o + b.cells.length, none⟩ vs').run P w = .ok () w' ∧
      HRel (upd h L { b with cells := b.cells ++ vs, gen := b.gen + 1 }) (updm m L (b.gen + 1) (k, o, r)) w' ∧
      Step h m w (upd h L { b with cells := b.cells ++ vs, gen := b.gen + 1 }) (updm m L (b.gen + 1) (k, o, r)) w' := by
  obtain ⟨c, fr, hc, hfr, hsz, hlen, hcs⟩ := H.row hL hm
  obtain ⟨hfr, ho0⟩ := hfr ho; subst hfr
  have hk : k < w.heap.size := (Array.getElem?_eq_some_iff.1 hc).1
  have hl := hv.length
  have hfit : o + b.cells.length + vs'.length ≤ c.size := by omega
  have hnone : m L (b.gen + 1) = none := by
    cases hh : m L (b.gen + 1) with
    | none => rfl
    | some p => have := H.gens L b _ p hL hh; omega
  have hle : m.le (updm m L (b.gen + 1) (k, o, r)) := le_updm (.inl hnone)
  have hm' : ∀ {L1 g p}, L1 ≠ L → updm m L (b.gen + 1) (k, o, r) L1 g = some p → m L1 g = some p := by
    intro L1 g p hne hh; unfold updm at hh; rwa [if_neg (fun x => hne x.1)] at hh
  refine ⟨setBlk w k (setRange c (o + b.cells.length) vs') b.elem, by simpa using run_storeCells (P := P) vs' 0 w c hc (by omega) (hv.oneCells fun _ _ => VR1.oneCell), ⟨?_, ?_, ?_, ?_, H.gl.mono hle, H.gh_upd hL ho⟩, ?_⟩
  · intro L1 b1 h1
    by_cases e : L1 = L
    · subst e; simp at h1; subst h1
      refine ⟨k, o, r, _, (0, 0), by simp [updm], setBlk_same _ _ hk, fun _ => ⟨rfl, ho0⟩, by rw [setRange_size]; exact hsz, by simp; exact hn, ?_⟩
      intro j v hj
      simp only at hj
      rw [setRange_get _ _ _ _ hfit]
      by_cases hin : j < b.cells.length
      · rw [List.getElem?_append_left hin] at hj
        rw [if_neg (by omega)]
        obtain ⟨v', x, y⟩ := hcs j v hj
        exact ⟨v', x, y.mono hle⟩
      · rw [List.getElem?_append_right (by omega)] at hj
        have hlt : j - b.cells.length < vs.length := (List.getElem?_eq_some_iff.1 hj).1
        rw [if_pos (by omega), show o + j - (o + b.cells.length) = j - b.cells.length by omega]
        obtain ⟨v', x, y⟩ := hv.get hj
        exact ⟨v', x, y.mono hle⟩
    · rw [upd_ne _ _ e] at h1
      obtain ⟨k1, o1, r1, c1, fr1, g1, g2, g3, g4, g5, g6⟩ := H.blk L1 b1 h1
      refine ⟨k1, o1, r1, c1, fr1, hle _ _ _ g1, ?_, g3, g4, g5, fun j v hj => ?_⟩
      · rw [setBlk_ne _ _ _ (fun hh => H.sep L L1 b b1 k o r k1 o1 r1 (Ne.symm e) hL h1 ho hm g1 hh.symm)]
        exact g2
      · obtain ⟨v', x, y⟩ := g6 j v hj; exact ⟨v', x, y.mono hle⟩
  · intro L1 L2 b1 b2 k1 o1 r1 k2 o2 r2 hne g1 g2 g3 g4 g5
    have f : ∀ L' b' p, upd h L { b with cells := b.cells ++ vs, gen := b.gen + 1 } L' = some b' → updm m L (b.gen + 1) (k, o, r) L' b'.gen = some p →
        ∃ b0, h L' = some b0 ∧ m L' b0.gen = some p ∧ b0.own = b'.own := by
      intro L' b' p hh hp
      by_cases e : L' = L
      · subst e; simp at hh; subst hh; simp [updm] at hp; subst hp; exact ⟨b, hL, hm, rfl⟩
      · rw [upd_ne _ _ e] at hh; exact ⟨b', hh, hm' e hp, rfl⟩
    obtain ⟨c1, x1, y1, z1⟩ := f L1 b1 _ g1 g4
    obtain ⟨c2, x2, y2, z2⟩ := f L2 b2 _ g2 g5
    exact H.sep L1 L2 c1 c2 k1 o1 r1 k2 o2 r2 hne x1 x2 (z1.trans g3) y1 y2
  · intro L1 g k1 o1 r1 hh; rw [setBlk_size]
    unfold updm at hh; split at hh
    · cases hh; exact hk
    · exact H.inb L1 g k1 o1 r1 hh
  · intro L1 b1 g p h1 hh
    by_cases e : L1 = L
    · subst e; simp at h1; subst h1
      unfold updm at hh; split at hh
      · rename_i x; simp [x.2]
      · have := H.gens L1 b g p hL hh; simp; omega
    · rw [upd_ne _ _ e] at h1; exact H.gens L1 b1 g p h1 (hm' e hh)
  · refine ⟨hle, rfl, rfl, rfl, by rw [setBlk_size]; exact Nat.le_refl _, ?_, ?_⟩
    · intro i hi hno
      exact setBlk_ne _ _ _ (fun e => hno L b o r hL ho (e ▸ hm))
    · intro L1 b1 k1 o1 r1 h1 ho1 hm1 _
      by_cases e : L1 = L
      · subst e; simp at h1; subst h1; simp [updm] at hm1; obtain ⟨rfl, rfl, rfl⟩ := hm1; exact ⟨L1, b, o, r, hL, ho, hm⟩
      · rw [upd_ne _ _ e] at h1; exact ⟨L1, b1, o1, r1, h1, ho1, hm' e hm1⟩

/-- A row laid anew elsewhere, with more cells. -/
theorem HRel.move (H : HRel h m w) {L : Nat} {b : Blk} (hL : h L = some b) (ho : b.own = true) (cs : List Value) (cs' : Array Value) (rest : List Value) (hc : All2 (VR1 m) cs cs'.toList) :
    HRel (upd h L { b with cells := cs, gen := b.gen + 1 }) (updm m L (b.gen + 1) (w.heap.size, 0, cs'.size + rest.length)) (w.alloc (.cells (cs' ++ rest.toArray) b.elem)) ∧
    Step h m w (upd h L { b with cells := cs, gen := b.gen + 1 }) (updm m L (b.gen + 1) (w.heap.size, 0, cs'.size + rest.length)) (w.alloc (.cells (cs' ++ rest.toArray) b.elem)) := by
  have hnone : m L (b.gen + 1) = none := by
    cases hh : m L (b.gen + 1) with
    | none => rfl
    | some p => have := H.gens L b _ p hL hh; omega
  have hle : m.le (updm m L (b.gen + 1) (w.heap.size, 0, cs'.size + rest.length)) := le_updm (.inl hnone)
  have hnew : (w.alloc (.cells (cs' ++ rest.toArray) b.elem)).heap[w.heap.size]? = some (.cells (cs' ++ rest.toArray) b.elem (0, 0)) := by show (w.heap.push _)[w.heap.size]? = _; simp
  have hold : ∀ i, i < w.heap.size → (w.alloc (.cells (cs' ++ rest.toArray) b.elem)).heap[i]? = w.heap[i]? := by
    intro i hi; show (w.heap.push _)[i]? = _; rw [Array.getElem?_push, if_neg (by omega)]
  have hm' : ∀ {L1 g p}, L1 ≠ L → updm m L (b.gen + 1) (w.heap.size, 0, cs'.size + rest.length) L1 g = some p → m L1 g = some p := by
    intro L1 g p hne hh; unfold updm at hh; rwa [if_neg (fun x => hne x.1)] at hh
  refine ⟨⟨?_, ?_, ?_, ?_, H.gl.mono hle, H.gh_upd hL ho⟩, ⟨hle, rfl, rfl, rfl, by simp, fun i hi _ => hold i hi, ?_⟩⟩
  · intro L1 b1 h1
    by_cases he : L1 = L
    · subst he; simp at h1; subst h1
      refine ⟨w.heap.size, 0, cs'.size + rest.length, _, (0, 0), by simp [updm], hnew, fun _ => ⟨rfl, rfl⟩, by simp, by have := hc.length; simp at this ⊢; omega, ?_⟩
      intro j v hj
      obtain ⟨v', hv, hr⟩ := hc.get hj
      refine ⟨v', ?_, hr.mono hle⟩
      have hlt : j < cs'.size := by
        have := List.getElem?_eq_some_iff.1 hv; obtain ⟨hx, _⟩ := this; simpa using hx
      rw [Nat.zero_add, Array.getElem?_append_left hlt]
      simpa using hv
    · rw [upd_ne _ _ he] at h1
      obtain ⟨k1, o1, r1, c1, fr1, g1, g2, g3, g4, g5, g6⟩ := H.blk L1 b1 h1
      refine ⟨k1, o1, r1, c1, fr1, hle _ _ _ g1, ?_, g3, g4, g5, fun j v hj => ?_⟩
      · rw [hold k1 (H.inb _ _ _ _ _ g1)]; exact g2
      · obtain ⟨v', x, y⟩ := g6 j v hj; exact ⟨v', x, y.mono hle⟩
  · intro L1 L2 b1 b2 k1 o1 r1 k2 o2 r2 hne g1 g2 g3 g4 g5
    by_cases e1 : L1 = L
    · subst e1; simp at g1; subst g1
      simp [updm] at g4
      rw [upd_ne _ _ (Ne.symm hne)] at g2
      have := H.inb _ _ _ _ _ (hm' (Ne.symm hne) g5)
      omega
    · rw [upd_ne _ _ e1] at g1
      have g4' := hm' e1 g4
      by_cases e2 : L2 = L
      · subst e2; simp at g2; subst g2
        simp [updm] at g5
        have := H.inb _ _ _ _ _ g4'
        omega
      · rw [upd_ne _ _ e2] at g2
        exact H.sep L1 L2 b1 b2 k1 o1 r1 k2 o2 r2 hne g1 g2 g3 g4' (hm' e2 g5)
  · intro L1 g k1 o1 r1 hh
    unfold updm at hh
    split at hh
    · cases hh; simp
    · have := H.inb _ _ _ _ _ hh; simp; omega
  · intro L1 b1 g p h1 hh
    by_cases he : L1 = L
    · subst he; simp at h1; subst h1
      unfold updm at hh; split at hh
      · rename_i x; simp [x.2]
      · have := H.gens L1 b g p hL hh; simp; omega
    · rw [upd_ne _ _ he] at h1; exact H.gens L1 b1 g p h1 (hm' he hh)
  · intro L1 b1 k1 o1 r1 h1 ho1 hm1 hk
    by_cases he : L1 = L
    · subst he; simp at h1; subst h1; simp [updm] at hm1; omega
    · rw [upd_ne _ _ he] at h1; exact ⟨L1, b1, o1, r1, h1, ho1, hm' he hm1⟩

/-- Labels forgotten. -/
theorem HRel.forget (H : HRel h m w) {h2 : Heap} {m2 : LMap} (hh : ∀ L b, h2 L = some b → h L = some b ∧ (∀ g, m2 L g = m L g) ∧ ∀ v ∈ b.cells, ∀ v', VR1 m v v' → VR1 m2 v v') (hle : m2.le m) (hgl : GL m2) (hgh : ∀ g b, GH g = some b → h2 g = some b) : HRel h2 m2 w := by
  refine ⟨?_, ?_, ?_, ?_, hgl, hgh⟩
  · intro L b hL
    obtain ⟨x, y, z⟩ := hh L b hL
    obtain ⟨k, o, r, c, fr, g1, g2, g3, g4, g5, g6⟩ := H.blk L b x
    refine ⟨k, o, r, c, fr, by rw [y]; exact g1, g2, g3, g4, g5, fun j v hj => ?_⟩
    obtain ⟨v', p, q⟩ := g6 j v hj
    exact ⟨v', p, z v (List.mem_of_getElem? hj) v' q⟩
  · intro L1 L2 b1 b2 k1 o1 r1 k2 o2 r2 hne g1 g2 g3 g4 g5
    exact H.sep L1 L2 b1 b2 k1 o1 r1 k2 o2 r2 hne (hh L1 b1 g1).1 (hh L2 b2 g2).1 g3 (hle _ _ _ g4) (hle _ _ _ g5)
  · intro L g k o r hm; exact H.inb L g k o r (hle _ _ _ hm)
  · intro L b g p hL hm; exact H.gens L b g p (hh L b hL).1 (hle _ _ _ hm)
end Go.Dm
/- The abstract machine, part C: one operation. -/
set_option linter.unusedSimpArgs false
set_option linter.unusedVariables false
namespace Go.Dm
open Go

/-! ### The frame -/
abbrev TEnv := List (Nat × Value)
def find : TEnv → Nat → Option Value
  | [], _ => none
  | (t, v) :: r, u => if u = t then some v else find r u
structure TRel (m : LMap) (T : TEnv) (a : Act) : Prop where
  tm : ∀ t v, find T t = some v → t < a.tmps.size ∧ VR3 m v (a.tmps.getD t undef)
  gl : GL m
theorem TRel.mono {m m' : LMap} (hm : m.le m') {T : TEnv} {a : Act} (h : TRel m T a) : TRel m' T a := ⟨fun t v ht => ⟨(h.tm t v ht).1, (h.tm t v ht).2.mono hm⟩, h.gl.mono hm⟩
theorem TRel.put {m : LMap} {T : TEnv} {a : Act} (h : TRel m T a) {v v' : Value} (hv : VR3 m v v') (d : Nat) (hd : d < a.tmps.size) : TRel m ((d, v) :: T) (a.put (some d) v') := by
  refine ⟨?_, h.gl⟩
  intro t u ht
  simp only [find] at ht
  simp only [Act.put, Array.size_setIfInBounds]
  split at ht
  · rename_i e; subst e; cases ht
    refine ⟨hd, ?_⟩
    simpa [Array.getD_eq_getD_getElem?, hd] using hv
  · rename_i e
    obtain ⟨x, y⟩ := h.tm t u ht
    refine ⟨x, ?_⟩
    simp only [Array.getD_eq_getD_getElem?, Array.getElem?_setIfInBounds] at y ⊢
    rwa [if_neg (fun h => e h.symm)]
theorem Act.put_size (a : Act) (d : Option Tmp) (v : Value) : (a.put d v).tmps.size = a.tmps.size := by cases d <;> simp [Act.put]
theorem Act.put_defers (a : Act) (d : Option Tmp) (v : Value) : (a.put d v).defers = a.defers := by cases d <;> rfl

def ev (T : TEnv) : Operand → Option Value
  | .tmp t => find T t
  | .const v => if closed3 v then some v else none
  | .func f => some (.func (.func f) #[] #[])
  | .global g => if g < NG then some (.pointer (some ⟨g, 0, none⟩)) else none
theorem ev_rel {m : LMap} {T : TEnv} {a : Act} (h : TRel m T a) {x : Operand} {v : Value} (hx : ev T x = some v) : VR3 m v (a.eval x) := by
  cases x with
  | tmp t => exact (h.tm t v hx).2
  | const u =>
    simp only [ev] at hx
    split at hx
    · rename_i hc; cases hx; exact VR3.refl hc
    · cases hx
  | func f => simp only [ev] at hx; cases hx; exact VR3.refl rfl
  | global g =>
    simp only [ev] at hx
    split at hx
    · rename_i hg; cases hx
      obtain ⟨r, hr⟩ := h.gl g hg
      exact .of2 (.of1 (.of0 (VR0.ptr (a := ⟨g, 0, none⟩) (o := 0) (by simpa [gen] using hr))))
    · cases hx

/-! ### The types' table -/
def isAggT (P : Program) (t : TypeId) : Bool := match P.underlying t with | some (.struct _) | some (.array _ _) => true | _ => false
theorem info_of_underlying {P : Program} {t : TypeId} {d : TypeDesc} (h : P.underlying t = some d) : ∃ i, P.info? t = some i := by
  unfold Program.underlying at h
  cases hi : P.info? t with
  | none => rw [hi] at h; cases h
  | some i => exact ⟨i, rfl⟩
theorem info_of_cells {P : Program} {t : TypeId} (h : 0 < P.cellsOf t) : ∃ i, P.info? t = some i ∧ i.size = P.cellsOf t := by
  unfold Program.cellsOf at h ⊢
  cases hi : P.info? t with
  | none => rw [hi] at h; simp at h
  | some i => exact ⟨i, rfl, by simp⟩
theorem run_sizeOf' {P : Program} {t : TypeId} (h : 0 < P.cellsOf t) (w : World) : (sizeOf t).run P w = .ok (P.cellsOf t) w := by
  obtain ⟨i, hi, hs⟩ := info_of_cells h
  simp [sizeOf, typeInfo, hi, hs]
theorem run_isAgg {P : Program} {t : TypeId} {d : TypeDesc} (h : P.underlying t = some d) (w : World) : (isAgg t).run P w = .ok (isAggT P t) w := by
  simp only [isAgg, Sem.run_bind, run_underlying h, Result.andThen_ok, isAggT, h]
  cases d <;> rfl


def partA (P : Program) (t : TypeId) (cs : Array Value) (off : Nat) : Option Value :=
  match P.underlying t with
  | some _ => if isAggT P t then (if 0 < P.cellsOf t then some (.agg (cs.extract off (off + P.cellsOf t))) else none) else cs[off]?
  | none => none
theorem partA_run {P : Program} {t : TypeId} {cs : Array Value} {off : Nat} {v : Value} (hp : partA P t cs off = some v) (w : World) : (part t cs off).run P w = .ok v w := by
  unfold partA at hp
  split at hp
  · rename_i d hd
    simp only [part, Sem.run_bind, run_isAgg hd, Result.andThen_ok]
    split at hp
    · rename_i ha
      split at hp
      · rename_i hs; cases hp
        simp only [ha, if_true, Sem.run_bind, run_sizeOf' hs, Result.andThen_ok, Sem.run_pure]
      · cases hp
    · rename_i ha
      simp only [ha, Bool.false_eq_true, if_false, hp, Sem.run_pure]
  · cases hp

/-! ### What is reckoned at once: integers, bools, comparisons of structs -/
def intBin (op : BinOp) (k : IntKind) (a b : Int) : Option Value :=
  match op with
  | .add => some (.int k (k.wrap (a + b)))
  | .sub => some (.int k (k.wrap (a - b)))
  | .mul => some (.int k (k.wrap (a * b)))
  | .quo => if b = 0 then none else some (.int k (k.wrap (a.tdiv b)))
  | .rem => if b = 0 then none else some (.int k (a.tmod b))
  | .eql => some (.bool (a == b))
  | .neq => some (.bool (a != b))
  | .lss => some (.bool (decide (a < b)))
  | .leq => some (.bool (decide (a ≤ b)))
  | .gtr => some (.bool (decide (a > b)))
  | .geq => some (.bool (decide (a ≥ b)))
  | .and => some (.int k (bits .and k a b))
  | .or => some (.int k (bits .or k a b))
  | .xor => some (.int k (bits .xor k a b))
  | .andNot => some (.int k (bits .andNot k a b))
  | .shr => if 0 ≤ b ∧ b ≤ k.bits then some (.int k (a / 2 ^ b.toNat)) else none
  | .shl => if 0 ≤ b ∧ b ≤ k.bits then some (.int k (k.wrap (a * 2 ^ b.toNat))) else none
theorem intBin_run {P : Program} {op : BinOp} {k : IntKind} {a b : Int} {r : Value} (h : intBin op k a b = some r) (t : TypeId) (w : World) : (binOp op t (.int k a) (.int k b)).run P w = .ok r w ∧ closed3 r = true := by
  have hb4 : ∀ o : BinOp, (o = .and ∨ o = .or ∨ o = .xor ∨ o = .andNot) → (binOp o t (.int k a) (.int k b)).run P w = .ok (.int k (bits o k a b)) w := by
    rintro o (rfl | rfl | rfl | rfl)
    · rw [binOp_and]; rfl
    · rw [binOp_or]; rfl
    · rw [binOp_xor]; rfl
    · rw [binOp_andNot]; rfl
  cases op <;> simp only [intBin] at h <;> first
    | (cases h; exact ⟨hb4 _ (by simp), rfl⟩)
    | (cases h; exact ⟨by simp [binOp, Op.intArith, Op.intCmp], rfl⟩)
    | (split at h; cases h; rename_i hb; cases h; exact ⟨by simp [binOp, Op.intDiv, hb], rfl⟩)
    | (split at h; rename_i hb; cases h; exact ⟨by simp only [binOp_shr, binOp_shl, shift_shr k k a b hb.1 hb.2, shift_shl k k a b hb.1 hb.2, Sem.run_pure], rfl⟩; cases h)
    | cases h
/-- Shifts by a number of another kind. -/
def shB (op : BinOp) (k : IntKind) (a b : Int) : Option Value :=
  match op with
  | .shr => if 0 ≤ b ∧ b ≤ k.bits then some (.int k (a / 2 ^ b.toNat)) else none
  | .shl => if 0 ≤ b ∧ b ≤ k.bits then some (.int k (k.wrap (a * 2 ^ b.toNat))) else none
  | _ => none
theorem shB_run {P : Program} {op : BinOp} {k k' : IntKind} {a b : Int} {r : Value} (h : shB op k a b = some r) (t : TypeId) (w : World) : (binOp op t (.int k a) (.int k' b)).run P w = .ok r w ∧ closed3 r = true := by
  cases op <;> simp only [shB] at h <;> first
    | (split at h; rename_i hb; cases h; exact ⟨by simp only [binOp_shr, binOp_shl, shift_shr k k' a b hb.1 hb.2, shift_shl k k' a b hb.1 hb.2, Sem.run_pure], rfl⟩; cases h)
    | cases h
def eqFieldsV (P : Program) (rec : TypeId → Value → Value → Option Bool) (xs ys : Array Value) : List Field → Option Bool
  | [] => some true
  | f :: fs =>
    if f.name ≠ "_" then
      match partA P f.type xs f.offset, partA P f.type ys f.offset with
      | some a, some b => match rec f.type a b, eqFieldsV P rec xs ys fs with
        | some r, some s => some (r && s)
        | _, _ => none
      | _, _ => none
    else eqFieldsV P rec xs ys fs
def eqItemsV (P : Program) (rec : TypeId → Value → Value → Option Bool) (e : TypeId) (c : Nat) (xs ys : Array Value) : List Nat → Option Bool
  | [] => some true
  | i :: is => match partA P e xs (i * c), partA P e ys (i * c) with
    | some a, some b => match rec e a b, eqItemsV P rec e c xs ys is with
      | some r, some s => some (r && s)
      | _, _ => none
    | _, _ => none
def eqV (P : Program) : Nat → TypeId → Value → Value → Option Bool
  | 0, _, _, _ => none
  | d + 1, t, x, y =>
    match P.underlying t, x, y with
    | some (.int _), .int k a, .int k' b => if k = k' then some (a == b) else none
    | some .bool, .bool a, .bool b => some (a == b)
    | some .string, .string a, .string b => some (a == b)
    | some (.struct fs), .agg xs, .agg ys => if P.stoodInHeld t then none else eqFieldsV P (eqV P d) xs ys fs.toList
    | some (.array n e), .agg xs, .agg ys => if 0 < P.cellsOf e then eqItemsV P (eqV P d) e (P.cellsOf e) xs ys (List.range n) else none
    | _, _, _ => none
theorem eqFieldsV_run {P : Program} {d j : Nat} (hrec : ∀ t x y r, eqV P d t x y = some r → ∀ w, (Op.equalIn (j + d) t x y).run P w = .ok r w) {xs ys : Array Value} : ∀ {fs : List Field} {r : Bool}, eqFieldsV P (eqV P d) xs ys fs = some r → ∀ w, (Op.eqFields (j + d) xs ys fs).run P w = .ok r w
  | [], r, h, w => by simp [eqFieldsV] at h; subst h; simp [Op.eqFields]
  | f :: fs, r, h, w => by
    simp only [eqFieldsV] at h
    simp only [Op.eqFields]
    split at h
    · rename_i hn
      rw [if_pos hn]
      split at h
      · rename_i a b ha hb
        split at h
        · rename_i r1 s1 hr hs
          cases h
          have ih := eqFieldsV_run hrec hs w
          simp only [Sem.run_bind, partA_run ha, partA_run hb, Result.andThen_ok, hrec _ _ _ _ hr w]
          cases r1
          · simp
          · simpa using ih
        · cases h
      · cases h
    · rename_i hn
      rw [if_neg hn]
      exact eqFieldsV_run hrec h w
theorem eqItemsV_run {P : Program} {d j : Nat} (hrec : ∀ t x y r, eqV P d t x y = some r → ∀ w, (Op.equalIn (j + d) t x y).run P w = .ok r w) {e : TypeId} {c : Nat} {xs ys : Array Value} : ∀ {is : List Nat} {r : Bool}, eqItemsV P (eqV P d) e c xs ys is = some r → ∀ w, (Op.eqItems (j + d) e c xs ys is).run P w = .ok r w
  | [], r, h, w => by simp [eqItemsV] at h; subst h; simp [Op.eqItems]
  | i :: is, r, h, w => by
    simp only [eqItemsV] at h
    simp only [Op.eqItems]
    split at h
    · rename_i a b ha hb
      split at h
      · rename_i r1 s1 hr hs
        cases h
        have ih := eqItemsV_run hrec hs w
        simp only [Sem.run_bind, partA_run ha, partA_run hb, Result.andThen_ok, hrec _ _ _ _ hr w]
        cases r1
        · simp
        · simpa using ih
      · cases h
    · cases h
theorem eqV_run {P : Program} : ∀ (d : Nat) (j : Nat) (t : TypeId) (x y : Value) (r : Bool), eqV P d t x y = some r → ∀ w, (Op.equalIn (j + d) t x y).run P w = .ok r w
  | 0, _, _, _, _, _, h, _ => by simp [eqV] at h
  | d + 1, j, t, x, y, r, h, w => by
    unfold eqV at h
    split at h
    · rename_i hu
      split at h
      · rename_i hk; subst hk; cases h
        show (Op.equalIn (j + d + 1) t _ _).run P w = _
        simp [Op.equalIn, run_underlying hu]
      · cases h
    · rename_i hu; cases h
      show (Op.equalIn (j + d + 1) t _ _).run P w = _
      simp [Op.equalIn, run_underlying hu]
    · rename_i hu; cases h
      show (Op.equalIn (j + d + 1) t _ _).run P w = _
      simp [Op.equalIn, run_underlying hu]
    · rename_i fs xs ys hu
      split at h
      · cases h
      · rename_i hst
        show (Op.equalIn (j + d + 1) t _ _).run P w = _
        have hf : P.fieldsOf t = fs := by simp [Program.fieldsOf, hu]
        rw [run_equalIn_struct w (j + d) t xs ys (by rw [hf]; exact hu) (by simpa using hst), hf]
        exact eqFieldsV_run (fun t x y r h w => eqV_run d j t x y r h w) h w
    · rename_i n e xs ys hu
      split at h
      · rename_i hs
        obtain ⟨i, hi, _⟩ := info_of_cells hs
        show (Op.equalIn (j + d + 1) t _ _).run P w = _
        rw [run_equalIn_array w (j + d) xs ys hu hi]
        exact eqItemsV_run (fun t x y r h w => eqV_run d j t x y r h w) h w
      · cases h
    · cases h
theorem eqV_equal {P : Program} {d : Nat} (hd : d ≤ 10000) {t : TypeId} {x y : Value} {r : Bool} (h : eqV P d t x y = some r) (w : World) : (Op.equal t x y).run P w = .ok r w := by
  have := eqV_run d (10000 - d) t x y r h w
  rw [show 10000 - d + d = 10000 by omega] at this
  exact this
def fastBin (P : Program) (op : BinOp) (t : TypeId) (x y : Value) : Option Value :=
  match x, y with
  | .int k a, .int k' b => if k = k' then intBin op k a b else shB op k a b
  | .bool a, .bool b => match op, eqV P 1 t (.bool a) (.bool b) with | .eql, some r => some (.bool r) | .neq, some r => some (.bool (!r)) | _, _ => none
  | .agg xs, .agg ys => if P.eqGuardType P.depth t then none else match op, eqV P 6 t (.agg xs) (.agg ys) with | .eql, some r => some (.bool r) | .neq, some r => some (.bool (!r)) | _, _ => none
  | _, _ => none
theorem fastBin_run {P : Program} {op : BinOp} {t : TypeId} {x y r : Value} (h : fastBin P op t x y = some r) (X Y : Operand) (w : World) :
    (do eqGuard op t X Y x y; binOp op t x y : Sem Value).run P w = .ok r w ∧ closed3 r = true := by
  unfold fastBin at h
  split at h
  · rename_i k a k' b
    split at h
    · rename_i hk; subst hk
      obtain ⟨h1, h2⟩ := intBin_run h t w
      refine ⟨?_, h2⟩
      have e1 : (eqGuard op t X Y (.int k a) (.int k b)).run P w = .ok () w := by simp only [eqGuard]; cases op <;> simp
      rw [Sem.run_bind, e1]; exact h1
    · obtain ⟨h1, h2⟩ := shB_run (k' := k') h t w
      refine ⟨?_, h2⟩
      have e1 : (eqGuard op t X Y (.int k a) (.int k' b)).run P w = .ok () w := by simp only [eqGuard]; cases op <;> simp
      rw [Sem.run_bind, e1]; exact h1
  · rename_i a b
    have e1 : (eqGuard op t X Y (.bool a) (.bool b)).run P w = .ok () w := by simp only [eqGuard]; cases op <;> simp
    split at h
    · rename_i r1 hr; cases h
      refine ⟨?_, rfl⟩
      rw [Sem.run_bind, e1]
      simp only [Result.andThen_ok, binOp, Sem.run_bind, eqV_equal (by omega) hr, Sem.run_pure]
    · rename_i r1 hr; cases h
      refine ⟨?_, rfl⟩
      rw [Sem.run_bind, e1]
      simp only [Result.andThen_ok, binOp, Sem.run_bind, eqV_equal (by omega) hr, Sem.run_pure]
    · cases h
  · rename_i xs ys
    split at h
    · cases h
    · rename_i hg
      have e1 : (eqGuard op t X Y (.agg xs) (.agg ys)).run P w = .ok () w := run_eqGuard_agg w op t X Y xs ys (by simpa using hg)
      split at h
      · rename_i r1 hr; cases h
        refine ⟨?_, rfl⟩
        rw [Sem.run_bind, e1]
        simp only [Result.andThen_ok, binOp, Sem.run_bind, eqV_equal (by omega) hr, Sem.run_pure]
      · rename_i r1 hr; cases h
        refine ⟨?_, rfl⟩
        rw [Sem.run_bind, e1]
        simp only [Result.andThen_ok, binOp, Sem.run_bind, eqV_equal (by omega) hr, Sem.run_pure]
      · cases h
  · cases h
def fastUn (op : UnOp) (x : Value) : Option Value :=
  match op, x with
  | .not, .bool b => some (.bool (!b))
  | .neg, .int k n => some (.int k (k.wrap (0 - n)))
  | _, _ => none
def fastConv (P : Program) (src dst : TypeId) (x : Value) : Option Value :=
  match P.underlying src, P.underlying dst, x with
  | some _, some (.int k), .int _ n => some (.int k (k.wrap n))
  | some _, some (.float k), .int _ n => some (.float k (floatOfInt k n))
  | some _, some (.int k), .float s b => (floatToIntVal s b k).map (.int k)
  | _, _, _ => none
def mxV (isMax : Bool) : Int → List Value → Option Int
  | a, [] => some a
  | a, .int _ b :: r => mxV isMax (if isMax then (if b > a then b else a) else (if b < a then b else a)) r
  | _, _ => none
def fastEval (P : Program) (o : Oper) (T : TEnv) : Option Value :=
  match o.op with
  | .binOp op t x y _ => match ev T x, ev T y with | some a, some b => if closed3 a && closed3 b then fastBin P op t a b else none | _, _ => none
  | .unOp op _ x => match ev T x with | some a => if closed3 a then fastUn op a else none | none => none
  | .convert s d x => match ev T x with | some a => if closed3 a then fastConv P s d a else none | none => none
  | .index t x i => match P.underlying t, ev T x, ev T i with
    | some (.array n e), some (.agg cs), some (.int _ j) => if closed3 (.agg cs) && decide (0 < P.cellsOf e ∧ 0 ≤ j ∧ j < n) then (match partA P e cs (j.toNat * P.cellsOf e) with | some v => if closed3 v then some v else none | none => none) else none
    | _, _, _ => none
  | .call c => match c.callee, c.args.toList with
    | .builtin b, x :: xs => match b, ev T x, xs.mapM (ev T) with
      | .max, some (.int k a), some vs => if vs.all closed3 then (mxV true a vs).map (.int k) else none
      | .min, some (.int k a), some vs => if vs.all closed3 then (mxV false a vs).map (.int k) else none
      | _, _, _ => none
    | _, _ => none
  | _ => none
/-! ### Operations that need no memory -/
def pureRun {α : Type} (P : Program) : Sem α → Option α
  | .pure a => some a
  | .program k => pureRun P (k P)
  | .mark _ k => pureRun P k
  | _ => none
theorem run_of_pureRun {α : Type} {P : Program} {s : Sem α} {a : α} (h : pureRun P s = some a) (w : World) : s.run P w = .ok a w := by
  induction s generalizing w with
  | pure b => simp [pureRun] at h; subst h; rfl
  | program k ih => simp only [pureRun] at h; exact ih P h w
  | mark _ k ih => simp only [pureRun] at h; exact ih h w
  | _ => simp [pureRun] at h
theorem pureRun_bind {α β : Type} (P : Program) (x : Sem α) (f : α → Sem β) : pureRun P (x >>= f) = (pureRun P x).bind fun a => pureRun P (f a) := by
  show pureRun P (x.bind f) = _
  induction x with
  | pure b => rfl
  | program k ih => simp only [Sem.bind, pureRun]; exact ih P
  | mark _ k ih => simp only [Sem.bind, pureRun]; exact ih
  | _ => simp [Sem.bind, pureRun]
theorem pureRun_pure {α : Type} (P : Program) (a : α) : pureRun P (pure a : Sem α) = some a := rfl

def pureOp : Op → Bool
  | .binOp .. | .unOp .. | .convert .. | .index .. | .makeInterface .. => true
  | .call { callee := .builtin b, .. } => match b with | .len | .cap | .max | .min => true | _ => false
  | _ => false
def evD (T : TEnv) (x : Operand) : Value := (ev T x).getD undef
theorem execOp_congr {ρ ρ' : Operand → Value} {o : Oper} (hp : pureOp o.op = true) (h : ∀ x ∈ o.op.operands, ρ x = ρ' x) : execOp ρ o = execOp ρ' o := by
  unfold execOp
  cases ho : o.op <;> rw [ho] at hp h <;> simp only [pureOp] at hp <;> try (exact absurd hp (by decide))
  · simp [Op.operands] at h; simp only [h]
  · simp [Op.operands] at h; simp only [h]
  · simp [Op.operands] at h; simp only [h]
  · simp [Op.operands] at h; simp only [h]
  · simp [Op.operands] at h; simp only [h]
  · rename_i c
    obtain ⟨cal, args, tys⟩ := c
    cases cal with
    | builtin b =>
      simp [Op.operands, Call.operands] at h
      simp only [resolve]
      rw [Array.map_congr_left h]
    | _ => simp at hp
def pureSlow (P : Program) (o : Oper) (T : TEnv) : Option Value :=
  if pureOp o.op && o.op.operands.all fun x => (ev T x).any closed3 then
    match pureRun P (execOp (evD T) o) with
    | some (.value r) => if closed3 r then some r else none
    | _ => none
  else none
theorem pureSlow_sound {P : Program} {o : Oper} {T : TEnv} {r : Value} (h : pureSlow P o T = some r) {m : LMap} {a : Act} (hT : TRel m T a) (w : World) :
    ∃ r', (execOp a.eval o).run P w = .ok (.value r') w ∧ VR3 m r r' := by
  unfold pureSlow at h
  split at h
  · rename_i hc
    simp only [Bool.and_eq_true, Array.all_eq_true_iff_forall_mem] at hc
    split at h
    · rename_i r1 hr
      split at h
      · rename_i hcl; cases h
        refine ⟨r, ?_, VR3.refl hcl⟩
        rw [execOp_congr (ρ' := evD T) hc.1 ?_]
        · exact run_of_pureRun hr w
        · intro x hx
          have := hc.2 x hx
          cases he : ev T x with
          | none => rw [he] at this; simp at this
          | some v => rw [he] at this; simp at this; rw [(ev_rel hT he).eq this, evD, he]; rfl
      · cases h
    · cases h
  · cases h

theorem ev_eq {m : LMap} {T : TEnv} {a : Act} (hT : TRel m T a) {x : Operand} {v : Value} (hx : ev T x = some v) (hc : closed3 v = true) : a.eval x = v := (ev_rel hT hx).eq hc
theorem mx_run {P : Program} (isMax : Bool) : ∀ (vs : List Value) (k : IntKind) (a r : Int) (w : World), mxV isMax a vs = some r → (vs.foldlM (if isMax then Builtin.max2 else Builtin.min2) (.int k a)).run P w = .ok (.int k r) w
  | [], k, a, r, w, h => by simp [mxV] at h; subst h; simp
  | .int kb b :: vs, k, a, r, w, h => by
    simp only [mxV] at h
    have ih := mx_run (P := P) isMax vs k _ r w h
    cases isMax
    · simp only [Bool.false_eq_true, if_false, List.foldlM_cons, Sem.run_bind, Builtin.min2, Sem.run_pure, Result.andThen_ok] at ih ⊢; exact ih
    · simp only [if_true, List.foldlM_cons, Sem.run_bind, Builtin.max2, Sem.run_pure, Result.andThen_ok] at ih ⊢; exact ih
  | .bool _ :: _, _, _, _, _, h | .float .. :: _, _, _, _, _, h | .complex .. :: _, _, _, _, _, h | .string _ :: _, _, _, _, _, h | .pointer _ :: _, _, _, _, _, h | .slice .. :: _, _, _, _, _, h | .map _ :: _, _, _, _, _, h
  | .chan _ :: _, _, _, _, _, h | .func .. :: _, _, _, _, _, h | .nilFunc :: _, _, _, _, _, h | .iface .. :: _, _, _, _, _, h | .nilIface :: _, _, _, _, _, h | .agg _ :: _, _, _, _, _, h | .tuple _ :: _, _, _, _, _, h => by simp [mxV] at h
theorem evs_eq {m : LMap} {T : TEnv} {a : Act} (hT : TRel m T a) : ∀ {xs : List Operand} {vs : List Value}, xs.mapM (ev T) = some vs → vs.all closed3 = true → xs.map a.eval = vs
  | [], vs, h, _ => by simp at h; subst h; rfl
  | x :: xs, vs, h, hc => by
    simp only [List.mapM_cons, Option.bind_eq_bind, Option.bind_eq_some_iff] at h
    obtain ⟨v, hv, vs', hvs, h⟩ := h
    simp at h; subst h
    simp only [List.all_cons, Bool.and_eq_true] at hc
    simp only [List.map_cons, ev_eq hT hv hc.1, evs_eq hT hvs hc.2]
theorem fastEval_sound {P : Program} {o : Oper} {T : TEnv} {r : Value} (h : fastEval P o T = some r) {m : LMap} {a : Act} (hT : TRel m T a) (w : World) :
    (execOp a.eval o).run P w = .ok (.value r) w ∧ closed3 r = true := by
  unfold fastEval at h
  split at h
  · rename_i op t x y yt hop
    split at h
    · rename_i va vb hx hy
      split at h
      · rename_i hc; simp only [Bool.and_eq_true] at hc
        obtain ⟨h1, h2⟩ := fastBin_run h x y w
        refine ⟨?_, h2⟩
        simp only [execOp, hop, ev_eq hT hx hc.1, ev_eq hT hy hc.2]
        rw [Sem.run_bind, h1]; rfl
      · cases h
    · cases h
  · rename_i op t x hop
    split at h
    · rename_i va hx
      split at h
      · rename_i hc
        unfold fastUn at h
        simp only [execOp, hop, ev_eq hT hx hc]
        split at h
        · cases h; exact ⟨by simp [Op.unary], rfl⟩
        · cases h; exact ⟨by simp [Op.unary, Op.intArith], rfl⟩
        · cases h
      · cases h
    · cases h
  · rename_i s d x hop
    split at h
    · rename_i va hx
      split at h
      · rename_i hc
        unfold fastConv at h
        simp only [execOp, hop, ev_eq hT hx hc]
        split at h
        · rename_i d1 k kk n h1 h2
          cases h
          refine ⟨?_, rfl⟩
          simp only [convert, Sem.run_bind, run_underlying h1, run_underlying h2, Result.andThen_ok]
          cases d1 <;> simp [Conv.intToInt]
        · rename_i d1 k kk n h1 h2
          cases h
          exact ⟨by rw [Sem.run_bind, run_convert_int_float w s d kk k n (by rw [h1]; rfl) h2]; rfl, rfl⟩
        · rename_i d1 k ss b h1 h2
          cases hz : floatToIntVal ss b k with
          | none => rw [hz] at h; cases h
          | some z => rw [hz] at h; cases h; exact ⟨by rw [Sem.run_bind, run_convert_float_int w s d ss k b z (by rw [h1]; rfl) h2 hz]; rfl, rfl⟩
        · cases h
      · cases h
    · cases h
  · rename_i t x i hop
    split at h
    · rename_i n e cs kk j hu hx hi
      split at h
      · rename_i hc; simp only [Bool.and_eq_true, decide_eq_true_eq] at hc
        split at h
        · rename_i v hp
          split at h
          · rename_i hcl; cases h
            refine ⟨?_, hcl⟩
            simp only [execOp, hop, ev_eq hT hx hc.1, ev_eq hT hi rfl, Instr.index, asIntOf, Sem.run_bind, Sem.run_pure, run_underlying hu, Result.andThen_ok, if_pos hc.2.2, run_sizeOf' hc.2.1, partA_run hp]
          · cases h
        · cases h
      · cases h
    · cases h
  · rename_i c hop
    obtain ⟨cal, args, tys⟩ := c
    split at h
    · rename_i b x xs hcal hargs
      simp only at hcal hargs
      subst hcal
      have ea : args.map a.eval = (a.eval x :: xs.map a.eval).toArray := by rw [← Array.toArray_toList (xs := args), hargs]; simp
      split at h
      · rename_i k n vs hx hvs
        split at h
        · rename_i hc
          simp only [Option.map_eq_some_iff] at h
          obtain ⟨r1, hr, rfl⟩ := h
          refine ⟨?_, rfl⟩
          have h1 := mx_run (P := P) true vs k n r1 w hr
          simp only [execOp, hop, resolve, Sem.run_bind, Sem.run_pure, Result.andThen_ok, invoke, builtin, ea, Builtin.max_, ev_eq hT hx rfl, evs_eq hT hvs hc]
          rw [if_pos rfl] at h1
          rw [h1]; rfl
        · cases h
      · rename_i k n vs hx hvs
        split at h
        · rename_i hc
          simp only [Option.map_eq_some_iff] at h
          obtain ⟨r1, hr, rfl⟩ := h
          refine ⟨?_, rfl⟩
          have h1 := mx_run (P := P) false vs k n r1 w hr
          simp only [execOp, hop, resolve, Sem.run_bind, Sem.run_pure, Result.andThen_ok, invoke, builtin, ea, Builtin.min_, ev_eq hT hx rfl, evs_eq hT hvs hc]
          rw [if_neg (by simp)] at h1
          rw [h1]; rfl
        · cases h
      · cases h
    · cases h
  · cases h
def pureEval (P : Program) (o : Oper) (T : TEnv) : Option Value := match fastEval P o T with | some r => some r | none => pureSlow P o T
theorem pureEval_sound {P : Program} {o : Oper} {T : TEnv} {r : Value} (h : pureEval P o T = some r) {m : LMap} {a : Act} (hT : TRel m T a) (w : World) :
    ∃ r', (execOp a.eval o).run P w = .ok (.value r') w ∧ VR3 m r r' := by
  unfold pureEval at h
  split at h
  · rename_i r1 h1; cases h
    obtain ⟨x, y⟩ := fastEval_sound h1 hT w
    exact ⟨r, x, VR3.refl y⟩
  · exact pureSlow_sound h hT w

/-! ### Pointers -/
def aadd (a : Addr) (n : Nat) : Addr := { a with off := a.off + n }
@[simp] theorem gen_aadd (a : Addr) (n : Nat) : gen (aadd a n) = gen a := rfl
@[simp] theorem block_aadd (a : Addr) (n : Nat) : (aadd a n).block = a.block := rfl
theorem ptr_inv {m : LMap} {a : Addr} {v' : Value} (h : VR3 m (.pointer (some a)) v') : ∃ k o r, m a.block (gen a) = some (k, o, r) ∧ v' = .pointer (some ⟨k, o + a.off, none⟩) := by
  cases h with | of2 h => cases h with | of1 h => cases h with | of0 h => cases h with
    | closed h => simp [closed0] at h
    | ptr h => exact ⟨_, _, _, h, rfl⟩
theorem ptr_mk {m : LMap} {a : Addr} {k o r : Nat} (h : m a.block (gen a) = some (k, o, r)) : VR3 m (.pointer (some a)) (.pointer (some ⟨k, o + a.off, none⟩)) := .of2 (.of1 (.of0 (.ptr h)))
theorem slice_inv {m : LMap} {a : Addr} {n c : Nat} {v' : Value} (h : VR3 m (.slice (some a) n c) v') (hn : 0 < n) :
    ∃ k o r c', m a.block (gen a) = some (k, o, r) ∧ v' = .slice (some ⟨k, o + a.off, none⟩) n c' ∧ n ≤ c' ∧ (c = 1 → c' = n) ∧ (∀ s, c = s + 2 → a.off + c' * s ≤ r) := by
  cases h with | of2 h => cases h with | of1 h => cases h with | of0 h => cases h with
    | closed h => simp [closed0] at h
    | slice h a b c d => exact ⟨_, _, _, _, h, rfl, b, c, d⟩
    | empty => contradiction
theorem slice_shape {m : LMap} {A : Option Addr} {n c : Nat} {v' : Value} (h : VR3 m (.slice A n c) v') : ∃ A' c', v' = .slice A' n c' ∧ A'.isSome = A.isSome ∧ n ≤ c' ∧ (A = none → n = 0 ∧ c' = 0) ∧ (c = 1 → c' = n) := by
  cases h with | of2 h => cases h with | of1 h => cases h with | of0 h => cases h with
    | closed h =>
      cases A with
      | some a => simp [closed0] at h
      | none =>
        match n, c, h with
        | 0, 0, _ => exact ⟨none, 0, rfl, rfl, by omega, fun _ => ⟨rfl, rfl⟩, by omega⟩
        | 0, c + 1, h => simp [closed0] at h
        | n + 1, c, h => simp [closed0] at h
    | slice h a b c d => exact ⟨_, _, rfl, rfl, b, by simp, c⟩
    | empty h h' => exact ⟨_, _, rfl, rfl, by omega, by simp, h⟩
theorem int_inv {m : LMap} {k : IntKind} {n : Int} {v' : Value} (h : VR3 m (.int k n) v') : v' = .int k n := h.eq rfl
theorem bool_inv {m : LMap} {b : Bool} {v' : Value} (h : VR3 m (.bool b) v') : v' = .bool b := h.eq rfl

/-! ### Reading -/
def loadA (P : Program) (h : Heap) (t : TypeId) (a : Addr) : Option Value :=
  match P.underlying t, h a.block with
  | some _, some b =>
    if b.gen = gen a then
      if isAggT P t then
        if 0 < P.cellsOf t ∧ a.off + P.cellsOf t ≤ b.cells.length then some (.agg ((b.cells.drop a.off).take (P.cellsOf t)).toArray) else none
      else b.cells[a.off]?
    else none
  | _, _ => none
theorem load_sound {P : Program} {h : Heap} {m : LMap} {w : World} (H : HRel h m w) {t : TypeId} {a : Addr} {v : Value} (hl : loadA P h t a = some v) {p' : Value} (hp : VR3 m (.pointer (some a)) p') :
    ∃ v', (Instr.loadAt t p').run P w = .ok v' w ∧ VR3 m v v' := by
  unfold loadA at hl
  split at hl
  · rename_i d b hd hb
    split at hl
    · rename_i hg
      obtain ⟨k, o, r, hm, rfl⟩ := ptr_inv hp
      rw [← hg] at hm
      simp only [Instr.loadAt, Instr.sureAddr, Sem.run_bind, Sem.run_pure, Result.andThen_ok, loadVar, run_isAgg hd]
      split at hl
      · rename_i ha
        split at hl
        · rename_i hs
          cases hl
          obtain ⟨vs, hv, hc⟩ := H.range hb hm a.off (P.cellsOf t) hs.2
          have hlen : vs.length = P.cellsOf t := by have := hv.length; simp at this; omega
          have hrun := run_loadCells_list (P := P) w ⟨k, o + a.off, none⟩ vs hc
          rw [hlen] at hrun
          refine ⟨.agg vs.toArray, ?_, .of2 (.agg (by simpa using hv))⟩
          simp only [ha, if_true, Sem.run_bind, run_sizeOf' hs.1, Result.andThen_ok, hrun, Sem.run_pure]
        · cases hl
      · rename_i ha
        obtain ⟨v', hc, hr⟩ := H.cell hb hm hl
        refine ⟨v', ?_, hr.up⟩
        simp only [ha, if_false, run_load, hc, Bool.false_eq_true]
    · cases hl
  · cases hl

/-! ### Writing -/
def storeA (P : Program) (h : Heap) (t : TypeId) (a : Addr) (v : Value) : Option (Nat × Blk) :=
  match h a.block with
  | some b =>
    if b.own = true ∧ b.gen = gen a ∧ 0 < P.cellsOf t ∧ v.cells.size = P.cellsOf t ∧ a.off + P.cellsOf t ≤ b.cells.length then some (a.block, { b with cells := putAt b.cells a.off v.cells.toList }) else none
  | none => none
def notTuple : Value → Bool | .tuple _ => false | _ => true
theorem VR3.vr2 {m : LMap} {v v' : Value} (h : VR3 m v v') (hn : notTuple v = true) : VR2 m v v' := by
  cases h with
  | of2 h => exact h
  | tuple h => simp [notTuple] at hn
theorem store_sound {P : Program} {h : Heap} {m : LMap} {w : World} (H : HRel h m w) {t : TypeId} {a : Addr} {v : Value} {L : Nat} {b : Blk} (hl : storeA P h t a v = some (L, b)) {p' v' : Value}
    (hp : VR3 m (.pointer (some a)) p') (hv : VR3 m v v') (hn : notTuple v = true) :
    ∃ w', (Instr.storeAt t p' v').run P w = .ok () w' ∧ HRel (upd h L b) m w' ∧ Step h m w (upd h L b) m w' := by
  unfold storeA at hl
  split at hl
  · rename_i b0 hb
    split at hl
    · rename_i hc
      obtain ⟨ho, hg, hs, hsz, hfit⟩ := hc
      cases hl
      obtain ⟨k, o, r, hm, rfl⟩ := ptr_inv hp
      rw [← hg] at hm
      have hcs := (hv.vr2 hn).cells
      have hl2 : v'.cells.size = P.cellsOf t := by have := hcs.length; simp at this; omega
      obtain ⟨w', h1, h2, h3⟩ := H.store hb ho hm a.off v.cells.toList v'.cells.toList (by simp; omega) hcs P
      refine ⟨w', ?_, h2, h3⟩
      simp only [Instr.storeAt, Instr.sureAddr, Sem.run_bind, Sem.run_pure, Result.andThen_ok, storeVar, run_sizeOf' hs, hl2, ne_eq, not_true_eq_false, if_false, h1]
    · cases hl
  · cases hl
end Go.Dm
/- The abstract machine, part D: operations that make memory, take values apart and put them together; append. -/
set_option linter.unusedSimpArgs false
set_option linter.unusedVariables false
namespace Go.Dm
open Go

def zeroOf (P : Program) (t : TypeId) : Option Value := (P.info? t).bind (·.zero)
theorem run_zeroValue' {P : Program} {t : TypeId} {z : Value} (h : zeroOf P t = some z) (w : World) : (zeroValue t).run P w = .ok z w := by
  unfold zeroOf at h
  cases hi : P.info? t with
  | none => rw [hi] at h; cases h
  | some i =>
    rw [hi] at h
    simp only [Option.bind_some] at h
    simp [zeroValue, typeInfo, hi, h]

/-- The world behind the making of a row. -/
theorem run_newRow {P : Program} (e : TypeId) (c : Array Value) (w : World) : (newRow e c).run P w = .ok ⟨w.heap.size, 0, none⟩ (w.alloc (.cells c e)) := by
  simp only [newRow, Sem.run_bind, run_newObj, Result.andThen_ok, Sem.run_pure]; rfl

/-- A new block of one variable. -/
def newA (e : TypeId) (v : Value) : Blk := ⟨v.cells.toList, e, 0, true⟩
theorem new_sound {P : Program} {h : Heap} {m : LMap} {w : World} (H : HRel h m w) {L : Nat} (hfr : ∀ g, m L g = none) {e : TypeId} {v v' : Value} (hv : VR3 m v v') (hn : notTuple v = true) :
    ∃ w' m' p', (newVar e v').run P w = .ok p' w' ∧ VR3 m' (.pointer (some ⟨L, 0, none⟩)) (.pointer (some p')) ∧ HRel (upd h L (newA e v)) m' w' ∧ Step h m w (upd h L (newA e v)) m' w' ∧
      ∀ L' g p, m' L' g = some p → m L' g = some p ∨ L' = L := by
  have hc := (hv.vr2 hn).cells
  obtain ⟨x, y⟩ := H.alloc L hfr v.cells.toList v'.cells e [] hc
  simp only [List.toArray, Array.append_empty, List.length_nil, Nat.add_zero] at x y
  refine ⟨_, _, _, run_newRow e v'.cells w, ?_, x, y, ?_⟩
  · exact ptr_mk (k := w.heap.size) (o := 0) (r := v'.cells.size) (by simp [updm, gen])
  · intro L' g p hh; unfold updm at hh; split at hh
    · rename_i e; exact .inr e.1
    · exact .inl hh

/-! ### Putting together -/
theorem fill_rel {m : LMap} {pl : Nat → Option (Nat × Nat)} : ∀ {ps ps' : List (Nat × Value)} {cs cs' : Array Value} {r : Array Value}, All2 (VR1 m) cs.toList cs'.toList →
    All2 (fun p q => p.1 = q.1 ∧ VR2 m p.2 q.2) ps ps' → Instr.fill pl cs ps = some r → ∃ r', Instr.fill pl cs' ps' = some r' ∧ All2 (VR1 m) r.toList r'.toList := by
  intro ps
  induction ps with
  | nil => intro ps' cs cs' r hc hp hr; cases hp; simp [Instr.fill] at hr ⊢; subst hr; exact hc
  | cons p ps ih =>
    intro ps' cs cs' r hc hp hr
    cases hp with | @cons _ q _ qs hpq hps =>
    obtain ⟨i, v⟩ := p
    obtain ⟨j, v'⟩ := q
    obtain ⟨hij, hv⟩ := hpq
    simp only at hij hv; subst hij
    simp only [Instr.fill] at hr ⊢
    cases hpl : pl i with
    | none => rw [hpl] at hr; cases hr
    | some os =>
      obtain ⟨off, size⟩ := os
      rw [hpl] at hr
      simp only at hr ⊢
      have hcells := hv.cells
      have hs1 : v'.cells.size = v.cells.size := by have := hcells.length; simpa using this
      have hs2 : cs'.size = cs.size := by have := hc.length; simpa using this
      rw [hs1, hs2]
      split at hr
      · cases hr
      · rename_i hno
        rw [if_neg hno]
        refine ih ?_ hps hr
        have key : ∀ (l l' : List Value) (k : Nat) (c c' : Array Value), All2 (VR1 m) c.toList c'.toList → All2 (VR1 m) l l' →
            All2 (VR1 m) ((l.zipIdx k).foldl (fun cs (x : Value × Nat) => cs.setIfInBounds (off + x.2) x.1) c).toList ((l'.zipIdx k).foldl (fun cs (x : Value × Nat) => cs.setIfInBounds (off + x.2) x.1) c').toList := by
          intro l
          induction l with
          | nil => intro l' k c c' h1 h2; cases h2; exact h1
          | cons a l ih2 =>
            intro l' k c c' h1 h2
            cases h2 with | @cons _ b _ bs hab hbs =>
            simp only [List.zipIdx_cons, List.foldl_cons]
            refine ih2 bs (k + 1) _ _ ?_ hbs
            refine All2.of_get (by have := h1.length; simpa using this) ?_
            intro i x y hx hy
            simp only [Array.toList_setIfInBounds, List.getElem?_set] at hx hy
            by_cases e : off + k = i
            · rw [if_pos e] at hx hy
              have hl := h1.length
              by_cases hb : i < c.toList.length
              · rw [if_pos (by omega)] at hx hy; cases hx; cases hy; exact hab
              · rw [if_neg (by omega)] at hx; cases hx
            · rw [if_neg e] at hx hy
              obtain ⟨y', hy', hr⟩ := h1.get hx
              rw [hy] at hy'; cases hy'; exact hr
        have := key v.cells.toList v'.cells.toList 0 cs cs' hc hcells
        simp only [← Array.foldl_toList, Array.toList_zipIdx]; exact this

def evParts (T : TEnv) : List (Nat × Operand) → Option (List (Nat × Value))
  | [] => some []
  | (i, x) :: r => match ev T x, evParts T r with
    | some v, some vs => if notTuple v then some ((i, v) :: vs) else none
    | _, _ => none
theorem evParts_rel {m : LMap} {T : TEnv} {a : Act} (hT : TRel m T a) : ∀ {ps : List (Nat × Operand)} {vs : List (Nat × Value)}, evParts T ps = some vs →
    All2 (fun p q => p.1 = q.1 ∧ VR2 m p.2 q.2) vs (ps.map fun p => (p.1, a.eval p.2))
  | [], vs, h => by simp [evParts] at h; subst h; exact .nil
  | (i, x) :: r, vs, h => by
    simp only [evParts] at h
    split at h
    · rename_i v vs' hv hvs
      split at h
      · rename_i hn; cases h
        exact .cons ⟨rfl, (ev_rel hT hv).vr2 hn⟩ (evParts_rel hT hvs)
      · cases h
    · cases h
def fieldsOK (P : Program) (fs : Array Field) : Bool := fs.toList.all fun f => decide (0 < P.cellsOf f.type)
def structPlaces (P : Program) (fs : Array Field) : Array (Nat × Nat) := fs.map fun f => (f.offset, P.cellsOf f.type)
def buildA (P : Program) (t : TypeId) (T : TEnv) (ps : Array (Nat × Operand)) : Option Value :=
  match P.underlying t, zeroOf P t, evParts T ps.toList with
  | some (.struct fs), some z, some vs =>
    if fieldsOK P fs && z.cells.toList.all closed1 then (Instr.fill ((structPlaces P fs)[·]?) z.cells vs).map .agg else none
  | some (.array _ e), some z, some vs =>
    if decide (0 < P.cellsOf e) && z.cells.toList.all closed1 then (Instr.fill (fun i => some (i * P.cellsOf e, P.cellsOf e)) z.cells vs).map .agg else none
  | _, _, _ => none
theorem run_mapM_ok {α β : Type} {P : Program} (f : α → Sem β) (g : α → β) (w : World) : ∀ (l : List α), (∀ x ∈ l, (f x).run P w = .ok (g x) w) → (l.mapM f).run P w = .ok (l.map g) w
  | [], _ => by simp
  | x :: l, h => by
    have ih := run_mapM_ok f g w l fun y hy => h y (by simp [hy])
    simp [List.mapM_cons, h x (by simp), ih]
theorem build_sound {P : Program} {T : TEnv} {m : LMap} {a : Act} (hT : TRel m T a) {t : TypeId} {ps : Array (Nat × Operand)} {v : Value} (hb : buildA P t T ps = some v) (w : World) :
    ∃ v', (Instr.build t (ps.map fun (i, x) => (i, a.eval x))).run P w = .ok v' w ∧ VR3 m v v' := by
  unfold buildA at hb
  have hcl : ∀ (z : Value), z.cells.toList.all closed1 = true → All2 (VR1 m) z.cells.toList z.cells.toList := fun z hz => All2.refl_of fun x hx => VR1.refl (by
    rw [List.all_eq_true] at hz; exact hz x hx)
  split at hb
  · rename_i fs z vs hu hz hvs
    split at hb
    · rename_i hok
      simp only [Bool.and_eq_true] at hok
      cases hf : Instr.fill ((structPlaces P fs)[·]?) z.cells vs with
      | none => rw [hf] at hb; cases hb
      | some r =>
        rw [hf] at hb; cases hb
        obtain ⟨r', h1, h2⟩ := fill_rel (hcl z hok.2) (evParts_rel hT hvs) hf
        refine ⟨.agg r', ?_, .of2 (.agg h2)⟩
        have hpl : (fs.mapM fun f => (do pure (f.offset, ← sizeOf f.type) : Sem (Nat × Nat))).run P w = .ok (structPlaces P fs) w := by
          rw [← Array.toArray_toList (xs := fs), List.mapM_toArray]
          simp only [Sem.run_map]
          rw [run_mapM_ok (P := P) _ (fun f : Field => (f.offset, P.cellsOf f.type)) w fs.toList ?_]
          · simp only [Result.andThen_ok, structPlaces]; congr 1; exact Array.ext' (by simp)
          · intro f hf
            have h0 := hok.1
            simp only [fieldsOK, List.all_eq_true, decide_eq_true_eq] at h0
            simp [run_sizeOf' (h0 f hf) w]
        simp only [Instr.build, Sem.run_bind, run_zeroValue' hz, run_underlying hu, Result.andThen_ok, hpl]
        simp only [Array.toList_map] at h1 ⊢
        rw [h1]; rfl
    · cases hb
  · rename_i n e z vs hu hz hvs
    split at hb
    · rename_i hok
      simp only [Bool.and_eq_true, decide_eq_true_eq] at hok
      cases hf : Instr.fill (fun i => some (i * P.cellsOf e, P.cellsOf e)) z.cells vs with
      | none => rw [hf] at hb; cases hb
      | some r =>
        rw [hf] at hb; cases hb
        obtain ⟨r', h1, h2⟩ := fill_rel (hcl z hok.2) (evParts_rel hT hvs) hf
        refine ⟨.agg r', ?_, .of2 (.agg h2)⟩
        simp only [Instr.build, Sem.run_bind, run_zeroValue' hz, run_underlying hu, Result.andThen_ok, run_sizeOf' hok.1]
        simp only [Array.toList_map] at h1 ⊢
        rw [h1]; rfl
    · cases hb
  · cases hb
end Go.Dm
/- The abstract machine, part E: slices, parts of values, append. -/
set_option linter.unusedSimpArgs false
set_option linter.unusedVariables false
namespace Go.Dm
open Go

/-! ### A slice's cells -/
def sliceCells (P : Program) (h : Heap) (size : Nat) : Value → Option (List Value)
  | .slice _ 0 _ => some []
  | .slice (some a) n _ => match h a.block with
    | some b => if b.gen = gen a ∧ a.off + n * size ≤ b.cells.length then some ((b.cells.drop a.off).take (n * size)) else none
    | none => none
  | _ => none
theorem sliceCells_rel {P : Program} {h : Heap} {m : LMap} {w : World} (H : HRel h m w) {size n : Nat} {a : Addr} {c : Nat} (hn : 0 < n) {xs : List Value} (hx : sliceCells P h size (.slice (some a) n c) = some xs)
    {k o r : Nat} (hm : m a.block (gen a) = some (k, o, r)) : ∃ vs, All2 (VR1 m) xs vs ∧ (∀ j v, vs[j]? = some v → w.cell? ((⟨k, o + a.off, none⟩ : Addr).add j) = some v) ∧ vs.length = n * size := by
  obtain ⟨n, rfl⟩ : ∃ j, n = j + 1 := ⟨n - 1, by omega⟩
  simp only [sliceCells] at hx
  split at hx
  · rename_i b hb
    split at hx
    · rename_i hc; cases hx
      rw [← hc.1] at hm
      obtain ⟨vs, x, y⟩ := H.range hb hm a.off ((n + 1) * size) hc.2
      exact ⟨vs, x, y, by have := x.length; simp at this; omega⟩
    · cases hx
  · cases hx

/-! ### Literals of slices -/
def sliceZero (z : Array Value) (n : Nat) : Array Value := (Array.range n).map (z[· % z.size]!)
def buildSliceA (P : Program) (t : TypeId) (len : Nat) (T : TEnv) (ps : Array (Nat × Operand)) (L : Nat) : Option (Value × Blk) :=
  match P.underlying t, evParts T ps.toList with
  | some (.slice e), some vs =>
    match zeroOf P e with
    | some z =>
      if 0 < P.cellsOf e ∧ len * P.cellsOf e ≤ 16777216 ∧ z.cells.size = P.cellsOf e ∧ z.cells.toList.all closed1 = true then
        (Instr.fill (fun i => some (i * P.cellsOf e, P.cellsOf e)) (sliceZero z.cells (len * P.cellsOf e)) vs).map fun r => (.slice (some ⟨L, 0, none⟩) len 1, ⟨r.toList, e, 0, true⟩)
      else none
    | none => none
  | _, _ => none
theorem fill_size {pl : Nat → Option (Nat × Nat)} : ∀ {ps : List (Nat × Value)} {cs r : Array Value}, Instr.fill pl cs ps = some r → r.size = cs.size
  | [], cs, r, h => by simp [Instr.fill] at h; subst h; rfl
  | (i, v) :: ps, cs, r, h => by
    simp only [Instr.fill] at h
    split at h
    · cases h
    · rename_i off size _
      split at h
      · cases h
      · have := fill_size h
        rw [this]
        have key : ∀ (l : List Value) (k : Nat) (c : Array Value), ((l.zipIdx k).foldl (fun cs (x : Value × Nat) => cs.setIfInBounds (off + x.2) x.1) c).size = c.size := by
          intro l
          induction l with
          | nil => intro k c; rfl
          | cons a l ih => intro k c; simp [List.zipIdx_cons, ih]
        have h2 := key v.cells.toList 0 cs
        simpa only [← Array.foldl_toList, Array.toList_zipIdx] using h2
theorem closed_all2 {m : LMap} {l : List Value} (h : l.all closed1 = true) : All2 (VR1 m) l l := All2.refl_of fun x hx => VR1.refl (by rw [List.all_eq_true] at h; exact h x hx)
theorem sliceZero_closed {z : Array Value} (hz : z.toList.all closed1 = true) (n : Nat) : (sliceZero z n).toList.all closed1 = true := by
  rw [List.all_eq_true] at hz ⊢
  intro x hx
  simp only [sliceZero, Array.toList_map, List.mem_map] at hx
  obtain ⟨i, _, rfl⟩ := hx
  by_cases hs : i % z.size < z.size
  · rw [getElem!_pos z _ hs]; exact hz _ (by simp)
  · rw [getElem!_neg z _ hs]; rfl
theorem buildSlice_sound {P : Program} {T : TEnv} {h : Heap} {m : LMap} {w : World} {a : Act} (H : HRel h m w) (hT : TRel m T a) {L : Nat} (hfr : ∀ g, m L g = none) {t : TypeId} {len : Nat} {ps : Array (Nat × Operand)} {v : Value} {b : Blk}
    (hb : buildSliceA P t len T ps L = some (v, b)) :
    ∃ w' m' v', (Instr.buildSlice t len (ps.map fun (i, x) => (i, a.eval x))).run P w = .ok v' w' ∧ VR3 m' v v' ∧ HRel (upd h L b) m' w' ∧ Step h m w (upd h L b) m' w' ∧
      ∀ L' g p, m' L' g = some p → m L' g = some p ∨ L' = L := by
  unfold buildSliceA at hb
  split at hb
  · rename_i e vs hu hvs
    split at hb
    · rename_i z hz
      split at hb
      · rename_i hok
        obtain ⟨hs, h24, hzs, hcl⟩ := hok
        cases hf : Instr.fill (fun i => some (i * P.cellsOf e, P.cellsOf e)) (sliceZero z.cells (len * P.cellsOf e)) vs with
        | none => rw [hf] at hb; cases hb
        | some r =>
          rw [hf] at hb; simp only [Option.map_some, Option.some.injEq, Prod.mk.injEq] at hb
          obtain ⟨rfl, rfl⟩ := hb
          obtain ⟨r', h1, h2⟩ := fill_rel (closed_all2 (m := m) (sliceZero_closed hcl (len * P.cellsOf e))) (evParts_rel hT hvs) hf
          obtain ⟨x, y⟩ := H.alloc L hfr r.toList r' e [] h2
          simp only [List.toArray, Array.append_empty, List.length_nil, Nat.add_zero] at x y
          have hsz : r'.size = len * P.cellsOf e := by have := fill_size h1; simpa [sliceZero] using this
          refine ⟨_, _, .slice (some ⟨w.heap.size, 0, none⟩) len len, ?_, ?_, x, y, ?_⟩
          · simp only [Instr.buildSlice, Sem.run_bind, run_underlying hu, run_sizeOf' hs, Result.andThen_ok, if_neg (show ¬ len * P.cellsOf e > 2 ^ 24 by omega)]
            simp only [Array.toList_map] at h1 ⊢
            by_cases h0 : len * P.cellsOf e = 0
            · rw [if_pos h0]
              have e0 : (Array.range (len * P.cellsOf e)).map (fun x => (#[] : Array Value)[x % (#[] : Array Value).size]!) = sliceZero z.cells (len * P.cellsOf e) := by simp [sliceZero, h0]
              simp only [Sem.run_bind, Sem.run_pure, Result.andThen_ok, e0]
              rw [h1]
              simp only [Sem.run_pure, Result.andThen_ok, Sem.run_bind, run_newRow]
            · rw [if_neg h0]
              have e0 : (Array.range (len * P.cellsOf e)).map (fun x => z.cells[x % z.cells.size]!) = sliceZero z.cells (len * P.cellsOf e) := rfl
              simp only [Sem.run_bind, run_zeroValue' hz, Sem.run_pure, Result.andThen_ok, e0]
              rw [h1]
              simp only [Sem.run_pure, Result.andThen_ok, Sem.run_bind, run_newRow]
          · rcases Nat.eq_zero_or_pos len with h0 | h0
            · subst h0; exact .of2 (.of1 (.of0 (.empty (by simp) (by omega))))
            · exact .of2 (.of1 (.of0 (VR0.slice (a := ⟨L, 0, none⟩) (k := w.heap.size) (o := 0) (r := r'.size) (by simp [updm, gen]) h0 (Nat.le_refl _) (fun _ => rfl) (by omega))))
          · intro L' g p hh; unfold updm at hh; split at hh
            · rename_i e; exact .inr e.1
            · exact .inl hh
      · cases hb
    · cases hb
  · cases hb

/-! ### Parts of values -/
theorem part_sound {P : Program} {m : LMap} {t : TypeId} {cs cs' : Array Value} {off : Nat} {v : Value} (hp : partA P t cs off = some v) (hc : All2 (VR1 m) cs.toList cs'.toList) (w : World) :
    ∃ v', (part t cs' off).run P w = .ok v' w ∧ VR3 m v v' := by
  unfold partA at hp
  split at hp
  · rename_i d hd
    simp only [part, Sem.run_bind, run_isAgg hd, Result.andThen_ok]
    split at hp
    · rename_i ha
      split at hp
      · rename_i hs; cases hp
        refine ⟨.agg (cs'.extract off (off + P.cellsOf t)), ?_, ?_⟩
        · simp only [ha, if_true, Sem.run_bind, run_sizeOf' hs, Result.andThen_ok, Sem.run_pure]
        · refine .of2 (.agg ?_)
          simp only [Array.toList_extract, List.extract_eq_take_drop]
          exact (hc.drop _).take _
      · cases hp
    · rename_i ha
      obtain ⟨v', h1, h2⟩ := hc.get (i := off) (x := v) (by simpa using hp)
      refine ⟨v', ?_, h2.up⟩
      have h1' : cs'[off]? = some v' := by simpa using h1
      simp only [ha, Bool.false_eq_true, if_false, h1', Sem.run_pure]
  · cases hp
def fieldA (P : Program) (t : TypeId) (v : Value) (f : Nat) : Option Value :=
  match P.underlying t, v with
  | some (.struct fs), .agg cs => match fs[f]? with | some fd => partA P fd.type cs fd.offset | none => none
  | _, _ => none
theorem agg_inv {m : LMap} {cs : Array Value} {v' : Value} (h : VR3 m (.agg cs) v') : ∃ cs', v' = .agg cs' ∧ All2 (VR1 m) cs.toList cs'.toList := by
  cases h with | of2 h => cases h with
    | of1 h => exact absurd h VR1.not_agg
    | agg h => exact ⟨_, rfl, h⟩
theorem field_sound {P : Program} {m : LMap} {t : TypeId} {v v' r : Value} {f : Nat} (hf : fieldA P t v f = some r) (hv : VR3 m v v') (w : World) :
    ∃ r', (Instr.field t v' f).run P w = .ok r' w ∧ VR3 m r r' := by
  unfold fieldA at hf
  split at hf
  · rename_i fs cs hu
    split at hf
    · rename_i fd hfd
      obtain ⟨cs', rfl, hc⟩ := agg_inv hv
      obtain ⟨r', h1, h2⟩ := part_sound hf hc w
      exact ⟨r', by simp only [Instr.field, Sem.run_bind, run_underlying hu, Result.andThen_ok, hfd, asAgg, Sem.run_pure, h1], h2⟩
    · cases hf
  · cases hf
def extractA (v : Value) (i : Nat) : Option Value := match v with | .tuple vs => vs[i]? | _ => none
theorem extract_sound {P : Program} {m : LMap} {v v' r : Value} {i : Nat} (hf : extractA v i = some r) (hv : VR3 m v v') (w : World) :
    ∃ r', (Instr.extract v' i).run P w = .ok r' w ∧ VR3 m r r' := by
  cases v with
  | tuple vs =>
    simp only [extractA] at hf
    cases hv with
    | of2 h => exact absurd h VR2.not_tuple
    | @tuple _ ys h =>
      obtain ⟨r', h1, h2⟩ := h.get (i := i) (x := r) (by simpa using hf)
      have h1' : ys[i]? = some r' := by simpa using h1
      exact ⟨r', by simp only [Instr.extract, h1', Sem.run_pure], .of2 h2⟩
  | _ => simp [extractA] at hf
def isV0 : Value → Bool | .agg _ | .tuple _ | .iface .. | .func .. => false | _ => true
theorem VR3.vr0 {m : LMap} {v v' : Value} (h : VR3 m v v') (hi : isV0 v = true) : VR0 m v v' := by
  cases h with
  | of2 h => cases h with
    | of1 h => cases h with
      | of0 h => exact h
      | iface h => simp [isV0] at hi
      | func h => simp [isV0] at hi
    | agg h => simp [isV0] at hi
  | tuple h => simp [isV0] at hi
def evAll (T : TEnv) : List Operand → Option (List Value)
  | [] => some []
  | x :: r => match ev T x, evAll T r with
    | some v, some vs => some (v :: vs)
    | _, _ => none
theorem evAll_rel {m : LMap} {T : TEnv} {a : Act} (hT : TRel m T a) : ∀ {xs : List Operand} {vs : List Value}, evAll T xs = some vs → All2 (VR3 m) vs (xs.map a.eval)
  | [], vs, h => by simp [evAll] at h; subst h; exact .nil
  | x :: r, vs, h => by
    simp only [evAll] at h
    split at h
    · rename_i v vs' hv hvs; cases h; exact .cons (ev_rel hT hv) (evAll_rel hT hvs)
    · cases h
def makeFuncA (fn : Fn) (first : Array Operand) (T : TEnv) (captured : Array Operand) : Option Value :=
  match evAll T captured.toList with
  | some vs => if first.isEmpty && vs.all isV0 then some (.func fn #[] vs.toArray) else none
  | none => none
theorem makeFunc_sound {P : Program} {m : LMap} {T : TEnv} {a : Act} (hT : TRel m T a) {fn : Fn} {first captured : Array Operand} {v : Value} (hf : makeFuncA fn first T captured = some v) (w : World) :
    ∃ v', (Instr.makeFunc fn (first.map a.eval) (captured.map a.eval)).run P w = .ok v' w ∧ VR3 m v v' := by
  unfold makeFuncA at hf
  split at hf
  · rename_i vs hvs
    split at hf
    · rename_i hc; cases hf
      simp only [Bool.and_eq_true, Array.isEmpty_iff, List.all_eq_true] at hc
      obtain ⟨rfl, hc⟩ := hc
      refine ⟨_, rfl, .of2 (.of1 ?_)⟩
      simp only [List.map_toArray, List.map_nil, Array.map_empty]
      refine .func ?_
      have h := evAll_rel hT hvs
      simp only [Array.toList_map]
      have key : ∀ (l l' : List Value), All2 (VR3 m) l l' → (∀ x ∈ l, isV0 x = true) → All2 (VR0 m) l l' := by
        intro l l' h
        induction h with
        | nil => intro _; exact .nil
        | cons h _ ih => intro hh; exact .cons (h.vr0 (hh _ (by simp))) (ih fun x hx => hh x (by simp [hx]))
      exact key _ _ h hc
    · cases hf
  · cases hf

/-! ### A slice's part -/
def evOpt (T : TEnv) : Option Operand → Option (Option Value)
  | none => some none
  | some x => (ev T x).map some
def boundOf (d : Nat) : Option Value → Option Int
  | none => some d
  | some (.int _ i) => some i
  | _ => none
def sliceA (P : Program) (t : TypeId) (v : Value) (lo hi : Option Value) : Option Value :=
  match P.underlying t, v with
  | some (.slice e), .slice A n c =>
    match boundOf 0 lo, boundOf n hi with
    | some l, some h =>
      if 0 < P.cellsOf e ∧ 0 ≤ l ∧ l ≤ h ∧ h ≤ n then
        if l = h then
          match A with
          | none => some (.slice none 0 0)
          | some a => some (.slice (some a) 0 (if c = 1 ∧ l = n then 1 else 0))
        else
          match A with
          | some a => some (.slice (some (aadd a (l.toNat * P.cellsOf e))) (h - l).toNat (if h = n ∧ (c = 1 ∨ c = P.cellsOf e + 2) then c else 0))
          | none => none
      else none
    | _, _ => none
  | _, _ => none
theorem boundOf_int {lo : Option Value} {d : Nat} {l : Int} (h : boundOf d lo = some l) : (lo = none ∧ l = d) ∨ ∃ k, lo = some (.int k l) := by
  unfold boundOf at h
  split at h
  · cases h; exact .inl ⟨rfl, rfl⟩
  · cases h; exact .inr ⟨_, rfl⟩
  · cases h
theorem slice_sound {P : Program} {m : LMap} {t : TypeId} {v v' r : Value} {lo hi : Option Value} (hs : sliceA P t v lo hi = some r) (hv : VR3 m v v') (w : World) :
    ∃ r', (Instr.sliceAt t v' lo hi none).run P w = .ok r' w ∧ VR3 m r r' := by
  unfold sliceA at hs
  split at hs
  · rename_i e A n c hu
    obtain ⟨A', c', rfl, hA, hnc, hnone, hex⟩ := slice_shape hv
    split at hs
    · rename_i l h hl hh
      split at hs
      · rename_i hc
        obtain ⟨hsz, h0, h1, h2⟩ := hc
        have hrun : (Instr.sliceAt t (.slice A' n c') lo hi none).run P w = .ok (.slice (if c' = l.toNat then A' else A'.map (·.add (l.toNat * P.cellsOf e))) (h.toNat - l.toNat) (c' - l.toNat)) w := by
          have x1 : l ≤ (h.toNat : Int) := by omega
          have x2 : h ≤ (c' : Int) := by omega
          have x3 : 0 ≤ h := by omega
          rcases boundOf_int hl with ⟨rfl, rfl⟩ | ⟨k, rfl⟩ <;> rcases boundOf_int hh with ⟨rfl, rfl⟩ | ⟨k', rfl⟩ <;>
            simp [Instr.sliceAt, run_underlying hu, Instr.slice, Instr.sliceBounds, Instr.sliceBound, asIntOf, run_sizeOf' hsz, h0, x1, x2, x3] <;> (intro hx; first | omega | (rw [Int.max_eq_left x3] at hx; omega))
        refine ⟨_, hrun, ?_⟩
        split at hs
        · rename_i hlh; subst hlh
          rw [Nat.sub_self]
          cases A with
          | none =>
            simp only [Option.some.injEq] at hs; subst hs
            obtain ⟨rfl, rfl⟩ := hnone rfl
            have hA' : A' = none := by cases A' <;> simp_all
            subst hA'
            have : l.toNat = 0 := by omega
            simp only [Option.map_none, ite_self, this]
            exact VR3.refl rfl
          | some a =>
            simp only [Option.some.injEq] at hs; subst hs
            cases A' with
            | none => simp at hA
            | some a' =>
              have : (if c' = l.toNat then some a' else (some a').map (·.add (l.toNat * P.cellsOf e))) = some (if c' = l.toNat then a' else a'.add (l.toNat * P.cellsOf e)) := by split <;> rfl
              rw [this]
              refine .of2 (.of1 (.of0 (.empty ?_ ?_)))
              · intro hx; split at hx
                · rename_i hy; have := hex hy.1; have := hy.2; omega
                · cases hx
              · intro s hx; split at hx <;> omega
        · rename_i hne
          cases A with
          | none => cases hs
          | some a =>
            simp only [Option.some.injEq] at hs; subst hs
            have hn0 : 0 < n := by omega
            obtain ⟨k, o, r0, c1, hm, he, h3, h4, h5⟩ := slice_inv hv hn0
            injection he with he1 _ he2
            subst he1 he2
            have hne' : ¬ c' = l.toNat := by omega
            rw [if_neg hne']
            simp only [Option.map_some, add_at]
            rw [show h.toNat - l.toNat = (h - l).toNat by omega, show o + a.off + l.toNat * P.cellsOf e = o + (aadd a (l.toNat * P.cellsOf e)).off by simp [aadd]; omega]
            refine .of2 (.of1 (.of0 (.slice (r := r0) (by simpa using hm) (by omega) (by omega) ?_ ?_)))
            · intro hx; split at hx
              · rename_i hy; have := h4 hx; omega
              · cases hx
            · intro s hx; split at hx
              · rename_i hy
                have h6 := h5 s hx
                have hs' : s = P.cellsOf e := by rcases hy.2 with h | h <;> omega
                subst hs'
                simp only [aadd]
                have : (c' - l.toNat) * P.cellsOf e = c' * P.cellsOf e - l.toNat * P.cellsOf e := Nat.sub_mul ..
                have h7 : l.toNat * P.cellsOf e ≤ c' * P.cellsOf e := Nat.mul_le_mul_right _ (by omega)
                omega
              · omega
      · cases hs
    · cases hs
  · cases hs
end Go.Dm
/- The abstract machine, part F: append; one operation whole. -/
set_option linter.unusedSimpArgs false
set_option linter.unusedVariables false
namespace Go.Dm
open Go

/-! ### append -/
def appendA (P : Program) (h : Heap) (t : TypeId) (s x : Value) (L : Nat) : Option (Value × Option (Nat × Blk)) :=
  match P.underlying t, s, x with
  | some (.slice e), .slice A n c, .slice B k d =>
    if 0 < P.cellsOf e then
      if k = 0 then some (s, none) else
      match sliceCells P h (P.cellsOf e) s, sliceCells P h (P.cellsOf e) x, zeroOf P e with
      | some os, some xs, some z =>
        if z.cells.size = P.cellsOf e ∧ 0 < P.bytesOf e ∧ (n + k) * P.bytesOf e ≤ 140737488355328 then
          if A = none ∨ c = 1 then some (.slice (some ⟨L, 0, none⟩) (n + k) (P.cellsOf e + 2), some (L, ⟨os ++ xs, e, 0, true⟩))
          else if c = P.cellsOf e + 2 ∧ 0 < n then
            match A with
            | some a =>
              match h a.block with
              | some b =>
                if b.own = true ∧ b.elem = e ∧ a.off = 0 ∧ n * P.cellsOf e = b.cells.length then
                  some (.slice (some ⟨a.block, 0, some (b.gen + 1)⟩) (n + k) (P.cellsOf e + 2), some (a.block, { b with cells := b.cells ++ xs, gen := b.gen + 1 }))
                else none
              | none => none
            | none => none
          else none
        else none
      | _, _, _ => none
    else none
  | _, _, _ => none

theorem drew_rel {h : Heap} {m : LMap} {w : World} (H : HRel h m w) : HRel h m w.drew := ⟨H.blk, H.sep, H.inb, H.gens, H.gl, H.gh⟩
theorem drew_step (h : Heap) (m : LMap) (w : World) : Step h m w h m w.drew := ⟨m.le_refl, rfl, rfl, rfl, Nat.le_refl _, fun _ _ _ => rfl, fun L b k o r x y z _ => ⟨L, b, o, r, x, y, z⟩⟩
theorem zeroCells_size (z : Array Value) (n : Nat) : (Builtin.zeroCells z n).size = n * z.size := by simp [Builtin.zeroCells]

/-- The heap behind an effect. -/
def eff (h : Heap) : Option (Nat × Blk) → Heap
  | none => h
  | some (L, b) => upd h L b
/-- What an effect leaves. -/
structure EffOK (h : Heap) (m : LMap) (w : World) (e : Option (Nat × Blk)) (m' : LMap) (w' : World) : Prop where
  rel : HRel (eff h e) m' w'
  step : Step h m w (eff h e) m' w'
  dom : ∀ L g p, m' L g = some p → m L g = some p ∨ ∃ b, e = some (L, b)
theorem EffOK.none {h : Heap} {m : LMap} {w : World} (H : HRel h m w) : EffOK h m w none m w := ⟨H, Step.refl h m w, fun _ _ _ h => .inl h⟩

theorem slice_mk {m : LMap} {L g k o r n c' size : Nat} (hm : m L g = some (k, o, r)) (h0 : 0 < n) (h1 : n ≤ c') (h2 : c' * size ≤ r) {sp : Option Nat} (hsp : sp.getD 0 = g) :
    VR3 m (.slice (some ⟨L, 0, sp⟩) n (size + 2)) (.slice (some ⟨k, o, none⟩) n c') := by
  refine .of2 (.of1 (.of0 (VR0.slice (a := ⟨L, 0, sp⟩) (o := o) (r := r) (by simpa [gen, hsp] using hm) h0 h1 (by omega) ?_)))
  intro s hs
  have : s = size := by omega
  subst this
  simpa using h2
theorem room_eq {a b c z nc n k s : Nat} (h1 : a = (n + k) * s) (h2 : b = (nc - (n + k)) * s) (h3 : n + k ≤ nc) : nc * s ≤ a + b := by
  rw [h1, h2, ← Nat.add_mul, Nat.add_sub_cancel' h3]; exact Nat.le_refl _
theorem updm_self (m : LMap) (L g : Nat) (p : Nat × Nat × Nat) : updm m L g p L g = some p := by simp [updm]
theorem updm_dom {m : LMap} {L g : Nat} {p : Nat × Nat × Nat} (b : Blk) : ∀ L' g' q, updm m L g p L' g' = some q → m L' g' = some q ∨ ∃ b', some (L, b) = some (L', b') := by
  intro L' g' q hh; unfold updm at hh; split at hh
  · rename_i e; exact .inr ⟨b, by rw [e.1]⟩
  · exact .inl hh

theorem append_sound {P : Program} {h : Heap} {m : LMap} {w : World} (H : HRel h m w) {t ty : TypeId} {s s' x x' v : Value} {e : Option (Nat × Blk)} {L : Nat} (hfr : ∀ g, m L g = none)
    (ha : appendA P h t s x L = some (v, e)) (hs : VR3 m s s') (hx : VR3 m x x') :
    ∃ w' m' v', (Builtin.append_ #[t, t] ty #[s', x']).run P w = .ok v' w' ∧ VR3 m' v v' ∧
      EffOK h m w e m' w' := by
  unfold appendA at ha
  split at ha
  · rename_i el A n c B k d hu
    obtain ⟨A', c', rfl, hA, hnc, hnone, hex⟩ := slice_shape hs
    obtain ⟨B', d', rfl, hB, hkd, hxnone, _⟩ := slice_shape hx
    split at ha
    · rename_i hsz
      obtain ⟨i, hi, hsize⟩ := info_of_cells hsz
      split at ha
      · rename_i hk0; subst hk0
        cases ha
        refine ⟨w, m, _, ?_, hs, .none H⟩
        have h1 : n + 0 ≤ c' := by omega
        have hf : ∀ X : Option Addr, (Builtin.firstCells (P.cellsOf el) 0 (.slice X 0 d')).run P w = .ok #[] w := by
          intro X; cases X <;> simp [Builtin.firstCells, loadCells, loadCellsFrom]
        cases A' with
        | none => simp [Builtin.append_, run_underlying hu, run_sizeOf' hsz, Builtin.lenOf, hnc, hf]
        | some a' => simp [Builtin.append_, run_underlying hu, run_sizeOf' hsz, Builtin.lenOf, hnc, hf, storeCells]
      · rename_i hk0
        have hk : 0 < k := by omega
        split at ha
        · rename_i os xs z hos hxs hz
          have hzi : i.zero = some z := by unfold zeroOf at hz; rw [hi] at hz; simpa using hz
          have hby : i.bytes = P.bytesOf el := by simp [Program.bytesOf, hi]
          split at ha
          · rename_i hc
            obtain ⟨hzs, hb0, hbig⟩ := hc
            have hnk : n + k ≤ (n + k) * P.bytesOf el := Nat.le_mul_of_pos_right _ hb0
            -- the cells that are appended
            obtain ⟨ab, hBe⟩ : ∃ ab, B = some ab := by
              cases B with
              | some ab => exact ⟨ab, rfl⟩
              | none => have := (hxnone rfl).1; omega
            subst hBe
            obtain ⟨kb, ob, rb, db, hmb, hxe, _, _, _⟩ := slice_inv hx hk
            obtain ⟨news, hnews, hnc1, hnl⟩ := sliceCells_rel H hk hxs hmb
            injection hxe with hB1 _ hB2
            subst hB1 hB2
            have hnl' : news.length = k * i.size := by rw [hsize]; exact hnl
            split at ha
            · -- a new row
              rename_i hexact
              cases ha
              have hcap : n = c' := by
                rcases hexact with h | h
                · have := hnone h; omega
                · exact (hex h).symm
              subst hcap
              -- the old cells
              obtain ⟨olds, holds, hrun⟩ : ∃ olds : List Value, All2 (VR1 m) os olds ∧
                  ∃ nc, n + k ≤ nc ∧ (Builtin.append_ #[t, t] ty #[.slice A' n n, .slice (some ⟨kb, ob + ab.off, none⟩) k d']).run P w =
                  .ok (.slice (some ⟨w.heap.size, 0, none⟩) (n + k) nc) (w.drew.alloc (.cells ((olds ++ news).toArray ++ Builtin.zeroCells z.cells (nc - (n + k))) el)) := by
                rcases Nat.eq_zero_or_pos n with h0 | h0
                · subst h0
                  have hos' : os = [] := by cases A <;> simp [sliceCells] at hos <;> exact hos
                  subst hos'
                  refine ⟨[], .nil, ?_⟩
                  cases A' with
                  | none =>
                    have h48 : k * i.bytes ≤ 281474976710656 := by rw [hby]; simp at hbig; omega
                    have := run_append_nil (P := P) w t ty el i z hu hi hzi ⟨kb, ob + ab.off, none⟩ k d' news hnl' hnc1 hk (by omega) h48
                    exact ⟨grownCap w k 0 el, by have := grownCap_ge w k 0 el; omega, by simpa using this⟩
                  | some a' =>
                    have h48 : Builtin.nextslicecap (0 + k) 0 * i.bytes ≤ 281474976710656 := growslice_fits (by omega) (by rw [hby]; exact hbig)
                    have := run_append_grow (P := P) w t ty el i z hu hi hzi a' 0 0 [] (by simp) (by simp) ⟨kb, ob + ab.off, none⟩ k d' news hnl' hnc1 (by omega) (by omega) h48
                    exact ⟨grownCap w (0 + k) 0 el, by have := grownCap_ge w (0 + k) 0 el; omega, by simpa using this⟩
                · obtain ⟨aa, hAe⟩ : ∃ aa, A = some aa := by
                    cases A with
                    | some aa => exact ⟨aa, rfl⟩
                    | none => have := (hnone rfl).1; omega
                  subst hAe
                  obtain ⟨ka, oa, ra, ca, hma, hse, _, _, _⟩ := slice_inv hs h0
                  obtain ⟨olds, holds, hoc, hol⟩ := sliceCells_rel H h0 hos hma
                  injection hse with hA1 _ hA2
                  subst hA1
                  have h48 : Builtin.nextslicecap (n + k) n * i.bytes ≤ 281474976710656 := growslice_fits (by omega) (by rw [hby]; exact hbig)
                  have := run_append_grow (P := P) w t ty el i z hu hi hzi ⟨ka, oa + aa.off, none⟩ n n olds (by rw [hsize]; exact hol) hoc ⟨kb, ob + ab.off, none⟩ k d' news hnl' hnc1 (by omega) (by omega) h48
                  exact ⟨olds, holds, grownCap w (n + k) n el, grownCap_ge w _ _ _, by simpa using this⟩
              obtain ⟨nc, hncle, hrun⟩ := hrun
              obtain ⟨p, q⟩ := (drew_rel H).alloc L hfr (os ++ xs) (olds ++ news).toArray el (Builtin.zeroCells z.cells (nc - (n + k))).toList (by simpa using holds.append hnews)
              simp only [Array.toArray_toList] at p q
              refine ⟨_, _, _, hrun, ?_, p, (drew_step h m w).trans q, ?_⟩
              · have e1 : (Builtin.zeroCells z.cells (nc - (n + k))).toList.length = (nc - (n + k)) * P.cellsOf el := by rw [Array.length_toList, zeroCells_size, hzs]
                have e2 : (olds ++ news).toArray.size = (n + k) * P.cellsOf el := by
                  have ho := holds.length
                  have : os.length = n * P.cellsOf el := by
                    rcases Nat.eq_zero_or_pos n with h0 | h0
                    · subst h0
                      have hos' : os = [] := by cases A <;> simp [sliceCells] at hos <;> exact hos
                      simp [hos']
                    · cases A with
                      | none => have := (hnone rfl).1; omega
                      | some aa =>
                        obtain ⟨ka, oa, ra, ca, hma, hse, _, _, _⟩ := slice_inv hs h0
                        obtain ⟨olds2, holds2, _, hol2⟩ := sliceCells_rel H h0 hos hma
                        have := holds2.length; omega
                  simp [Nat.add_mul]; omega
                exact slice_mk (updm_self _ _ _ _) (by omega) hncle (room_eq (z := 0) (c := 0) e2 e1 hncle) rfl
              · exact updm_dom _
            · rename_i hnex
              split at ha
              · rename_i hcs
                split at ha
                · rename_i aa
                  split at ha
                  · rename_i b hb
                    split at ha
                    · rename_i hbk
                      obtain ⟨hown, hel, hoff, hlen⟩ := hbk
                      cases ha
                      obtain ⟨hc2, hn0⟩ := hcs
                      obtain ⟨ka, oa, ra, ca, hma, hse, hca, _, hroom⟩ := slice_inv hs hn0
                      obtain ⟨olds, holds, hoc, hol⟩ := sliceCells_rel H hn0 hos hma
                      have hgen : b.gen = gen aa := by
                        obtain ⟨n', rfl⟩ : ∃ j, n = j + 1 := ⟨n - 1, by omega⟩
                        simp only [sliceCells, hb] at hos
                        split at hos
                        · rename_i hx; exact hx.1
                        · cases hos
                      have hos2 : os = b.cells := by
                        obtain ⟨n', rfl⟩ : ∃ j, n = j + 1 := ⟨n - 1, by omega⟩
                        simp only [sliceCells, hb] at hos
                        split at hos
                        · cases hos; rw [hoff, hlen]; simp
                        · cases hos
                      subst hos2
                      rw [← hgen] at hma
                      injection hse with hA1 _ hA2
                      subst hA1 hA2
                      have hroom' := hroom (P.cellsOf el) hc2
                      by_cases hfits : n + k ≤ c'
                      · -- in place
                        have hnl2 : xs.length = k * P.cellsOf el := by have := hnews.length; omega
                        have hr : b.cells.length + xs.length ≤ ra := by
                          rw [← hlen, hnl2, ← Nat.add_mul]
                          have := Nat.mul_le_mul_right (P.cellsOf el) hfits
                          omega
                        obtain ⟨w', h1, h2, h3⟩ := H.grow hb hown hma xs news hr hnews P
                        refine ⟨w', _, .slice (some ⟨ka, oa + aa.off, none⟩) (n + k) c', ?_, ?_, h2, h3, ?_⟩
                        · have hf := run_firstCells_some (P := P) w (P.cellsOf el) k ⟨kb, ob + ab.off, none⟩ k d' news hnl hnc1
                          have hst : (storeCells ((⟨ka, oa + aa.off, none⟩ : Addr).add (n * P.cellsOf el)) news).run P w = .ok () w' := by
                            rw [add_at, hoff, Nat.add_zero, hlen]; exact h1
                          simp [Builtin.append_, run_underlying hu, run_sizeOf' hsz, Builtin.lenOf, hfits, hf, hst]
                        · rw [hoff]
                          exact slice_mk (updm_self _ _ _ _) (by omega) hfits (by omega) rfl
                        · exact updm_dom _
                      · -- a new block
                        have h48 : Builtin.nextslicecap (n + k) c' * i.bytes ≤ 281474976710656 := growslice_fits (by omega) (by rw [hby]; exact hbig)
                        have hrun := run_append_grow (P := P) w t ty el i z hu hi hzi ⟨ka, oa + aa.off, none⟩ n c' olds (by rw [hsize]; exact hol) hoc ⟨kb, ob + ab.off, none⟩ k d' news hnl' hnc1 (by omega) (by omega) h48
                        have hge := grownCap_ge w (n + k) c' el
                        have e1 : (Builtin.zeroCells z.cells (grownCap w (n + k) c' el - (n + k))).toList.length = (grownCap w (n + k) c' el - (n + k)) * P.cellsOf el := by rw [Array.length_toList, zeroCells_size, hzs]
                        have e2 : (olds ++ news).toArray.size = (n + k) * P.cellsOf el := by simp [Nat.add_mul]; omega
                        generalize grownCap w (n + k) c' el = nc at *
                        obtain ⟨p, q⟩ := (drew_rel H).move hb hown (b.cells ++ xs) (olds ++ news).toArray (Builtin.zeroCells z.cells (nc - (n + k))).toList (by simpa using holds.append hnews)
                        simp only [Array.toArray_toList, hel] at p q
                        have hrun' : (Builtin.append_ #[t, t] ty #[.slice (some ⟨ka, oa + aa.off, none⟩) n c', .slice (some ⟨kb, ob + ab.off, none⟩) k d']).run P w =
                            .ok (.slice (some ⟨w.drew.heap.size, 0, none⟩) (n + k) nc) (w.drew.alloc (.cells ((olds ++ news).toArray ++ Builtin.zeroCells z.cells (nc - (n + k))) el)) := by simpa using hrun
                        refine ⟨_, _, _, hrun', ?_, by rw [hel]; exact p, by rw [hel]; exact (drew_step h m w).trans q, ?_⟩
                        · exact slice_mk (updm_self _ _ _ _) (by omega) hge (room_eq (z := 0) (c := 0) e2 e1 hge) rfl
                        · exact updm_dom _
                    · cases ha
                  · cases ha
                · cases ha
              · cases ha
          · cases ha
        · cases ha
    · cases ha
  · cases ha
end Go.Dm
/- The abstract machine, part G: one operation, whole. -/
set_option linter.unusedSimpArgs false
set_option linter.unusedVariables false
namespace Go.Dm
open Go

def pickA (c a b : Option Value) : Option Value :=
  match c, a, b with
  | some (.bool t), some (.bool x), some (.bool y) => some (.bool (bif t then x else y))
  | some (.bool t), a, b => if t then a else b
  | _, _, _ => none
def nilCheckA : Option Value → Option Value
  | some (.pointer (some a)) => some (.pointer (some a))
  | some (.func (.func f) x y) => some (.func (.func f) x y)
  | _ => none
def fieldAddrA (P : Program) (s : TypeId) (x : Option Value) (f : Nat) : Option Value :=
  match P.underlying s, x with
  | some (.struct fs), some (.pointer (some a)) => match fs[f]? with
    | some fd => if 0 < P.cellsOf fd.type then some (.pointer (some (aadd a fd.offset))) else none
    | none => none
  | _, _ => none
def indexAddrA (P : Program) (t : TypeId) (x ix : Option Value) : Option Value :=
  match P.underlying t, x, ix with
  | some (.slice e), some (.slice (some a) n _), some (.int _ i) => if 0 < P.cellsOf e ∧ 0 ≤ i ∧ i < n then some (.pointer (some (aadd a (i.toNat * P.cellsOf e)))) else none
  | some (.array n e), some (.pointer (some a)), some (.int _ i) => if 0 < P.cellsOf e ∧ 0 ≤ i ∧ i < n then some (.pointer (some (aadd a (i.toNat * P.cellsOf e)))) else none
  | _, _, _ => none
def lenA (P : Program) (t : TypeId) (x : Option Value) : Option Value :=
  match P.underlying t, x with
  | some (.slice _), some (.slice _ n _) => some (.int .i64 n)
  | _, _ => none
def eqNilA (P : Program) (op : BinOp) (t : TypeId) (x y : Option Value) : Option Value :=
  match P.underlying t, x, y with
  | some (.slice _), some (.slice A _ _), some (.slice B _ _) => if A.isNone || B.isNone then (match op with | .eql => some (.bool (A.isNone && B.isNone)) | .neq => some (.bool (!(A.isNone && B.isNone))) | _ => none) else none
  | some (.pointer _), some (.pointer A), some (.pointer B) => if A.isNone || B.isNone then (match op with | .eql => some (.bool (A.isNone && B.isNone)) | .neq => some (.bool (!(A.isNone && B.isNone))) | _ => none) else none
  | _, _, _ => none
def callA (P : Program) (o : Oper) (T : TEnv) (h : Heap) (L : Nat) (c : Call) : Option (Value × Option (Nat × Blk)) :=
  match c.callee with
  | .builtin b =>
    match b with
    | .append =>
      match c.args.toList, c.argTypes.toList with
      | [s, x], [t, t'] => if t = t' then match ev T s, ev T x with | some s, some x => appendA P h t s x L | _, _ => none else none
      | _, _ => none
    | .len =>
      match c.args.toList, c.argTypes.toList with
      | [x], [t] => match lenA P t (ev T x) with | some v => some (v, none) | none => (pureEval P o T).map (·, none)
      | _, _ => none
    | _ => (pureEval P o T).map (·, none)
  | _ => none
def lopA (P : Program) (o : Oper) (T : TEnv) (h : Heap) (L : Nat) : Option (Value × Option (Nat × Blk)) :=
  match o.op with
  | .move x => (ev T x).map (·, none)
  | .assign x => (ev T x).map (·, none)
  | .pick c a b => (pickA (ev T c) (ev T a) (ev T b)).map (·, none)
  | .nilCheck x => (nilCheckA (ev T x)).map (·, none)
  | .fieldAddr s x f => (fieldAddrA P s (ev T x) f).map (·, none)
  | .indexAddr t x ix => (indexAddrA P t (ev T x) (ev T ix)).map (·, none)
  | .load t x => match ev T x with | some (.pointer (some a)) => (loadA P h t a).map (·, none) | _ => none
  | .store t x y => match ev T x, ev T y with
    | some (.pointer (some a)), some v => if notTuple v then (storeA P h t a v).map fun e => (undef, some e) else none
    | _, _ => none
  | .alloc e => match zeroOf P e with | some z => if closed3 z && notTuple z then some (.pointer (some ⟨L, 0, none⟩), some (L, newA e z)) else none | none => none
  | .box e x => match ev T x with | some v => if notTuple v then some (.pointer (some ⟨L, 0, none⟩), some (L, newA e v)) else none | none => none
  | .build t ps => (buildA P t T ps).map (·, none)
  | .buildSlice t len ps => (buildSliceA P t len T ps L).map fun r => (r.1, some (L, r.2))
  | .field t x f => match ev T x with | some v => (fieldA P t v f).map (·, none) | none => none
  | .extract x i => match ev T x with | some v => (extractA v i).map (·, none) | none => none
  | .makeFunc fn first captured => (makeFuncA fn first T captured).map (·, none)
  | .slice t x lo hi none => match ev T x, evOpt T lo, evOpt T hi with
    | some v, some l, some h => (sliceA P t v l h).map (·, none)
    | _, _, _ => none
  | .call c => callA P o T h L c
  | .binOp op t x y _ => match eqNilA P op t (ev T x) (ev T y) with | some v => some (v, none) | none => (pureEval P o T).map (·, none)
  | _ => (pureEval P o T).map (·, none)

theorem pickA_rel {P : Program} {m : LMap} {T : TEnv} {a : Act} (hT : TRel m T a) {c x y : Operand} {v : Value} (h : pickA (ev T c) (ev T x) (ev T y) = some v) (w : World) :
    ∃ v', (do pure (.value (if ← asBool (a.eval c) then a.eval x else a.eval y)) : Sem Next).run P w = .ok (.value v') w ∧ VR3 m v v' := by
  cases hc : ev T c with
  | none => rw [hc] at h; simp [pickA] at h
  | some cv =>
    cases cv with
    | bool t =>
      have e := bool_inv (ev_rel hT hc)
      simp only [e, asBool, Sem.run_bind, Sem.run_pure, Result.andThen_ok]
      refine ⟨_, rfl, ?_⟩
      have key : (∃ u, (if t then ev T x else ev T y) = some u ∧ u = v) := by
        rw [hc] at h
        cases t
        · unfold pickA at h; split at h
          · rename_i hcc hx hy; cases hcc; cases h; exact ⟨_, by simpa using hy, rfl⟩
          · rename_i hcc _; cases hcc; exact ⟨v, by simpa using h, rfl⟩
          · cases h
        · unfold pickA at h; split at h
          · rename_i hcc hx hy; cases hcc; cases h; exact ⟨_, by simpa using hx, rfl⟩
          · rename_i hcc _; cases hcc; exact ⟨v, by simpa using h, rfl⟩
          · cases h
      obtain ⟨u, hu, rfl⟩ := key
      cases t
      · exact ev_rel hT (by simpa using hu)
      · exact ev_rel hT (by simpa using hu)
    | _ => rw [hc] at h; simp [pickA] at h

theorem equal_slice {P : Program} {t e : TypeId} (hu : P.underlying t = some (.slice e)) (A B : Option Addr) (n c k d : Nat) (hn : (A.isNone || B.isNone) = true) (w : World) :
    (Op.equal t (.slice A n c) (.slice B k d)).run P w = .ok (A.isNone && B.isNone) w := by
  have e1 : ∀ j : Nat, (Op.equalIn (j + 1) t (.slice A n c) (.slice B k d)).run P w = .ok (A.isNone && B.isNone) w := by
    intro j
    cases A <;> cases B <;> simp_all [Op.equalIn, run_underlying hu]
  exact e1 9999
theorem equal_pointer {P : Program} {t e : TypeId} (hu : P.underlying t = some (.pointer e)) (A B : Option Addr) (hn : (A.isNone || B.isNone) = true) (w : World) :
    (Op.equal t (.pointer A) (.pointer B)).run P w = .ok (A.isNone && B.isNone) w := by
  have e1 : ∀ j : Nat, (Op.equalIn (j + 1) t (.pointer A) (.pointer B)).run P w = .ok (A.isNone && B.isNone) w := by
    intro j
    cases A <;> cases B <;> simp_all [Op.equalIn, run_underlying hu]
  exact e1 9999
theorem eqNil_sound {P : Program} {m : LMap} {op : BinOp} {t : TypeId} {x y : Option Value} {v : Value} (h : eqNilA P op t x y = some v) {vx vy vx' vy' : Value} (hx : x = some vx) (hy : y = some vy) (hvx : VR3 m vx vx') (hvy : VR3 m vy vy') (X Y : Operand) (w : World) :
    (do eqGuard op t X Y vx' vy'; binOp op t vx' vy' : Sem Value).run P w = .ok v w ∧ VR3 m v v := by
  subst hx hy
  unfold eqNilA at h
  split at h
  · rename_i e A n c B k d hu hx hy
    cases hx; cases hy
    obtain ⟨A', c', rfl, hA, _⟩ := slice_shape hvx
    obtain ⟨B', d', rfl, hB, _⟩ := slice_shape hvy
    have hA2 : A'.isNone = A.isNone := by cases A <;> cases A' <;> simp_all
    have hB2 : B'.isNone = B.isNone := by cases B <;> cases B' <;> simp_all
    split at h
    · rename_i hn
      have heq : (Op.equal t (.slice A' n c') (.slice B' k d')).run P w = .ok (A'.isNone && B'.isNone) w := by
        exact equal_slice hu A' B' n c' k d' (by rw [hA2, hB2]; exact hn) w
      rw [hA2, hB2] at heq
      split at h
      · cases h; refine ⟨?_, VR3.refl rfl⟩
        have e1 : (eqGuard .eql t X Y (.slice A' n c') (.slice B' k d')).run P w = .ok () w := by simp [eqGuard]
        simp only [Sem.run_bind, e1, Result.andThen_ok, binOp, heq, Sem.run_pure]
      · cases h; refine ⟨?_, VR3.refl rfl⟩
        have e1 : (eqGuard .neq t X Y (.slice A' n c') (.slice B' k d')).run P w = .ok () w := by simp [eqGuard]
        simp only [Sem.run_bind, e1, Result.andThen_ok, binOp, heq, Sem.run_pure]
      · cases h
    · cases h
  · rename_i e A B hu hx hy
    cases hx; cases hy
    have ptrs : ∀ (A : Option Addr) (v' : Value), VR3 m (.pointer A) v' → ∃ A', v' = .pointer A' ∧ A'.isNone = A.isNone := by
      intro A v' hv
      cases A with
      | none => exact ⟨none, hv.eq rfl, rfl⟩
      | some a => obtain ⟨k, o, r, _, he⟩ := ptr_inv hv; exact ⟨_, he, rfl⟩
    obtain ⟨A', rfl, hA2⟩ := ptrs A _ hvx
    obtain ⟨B', rfl, hB2⟩ := ptrs B _ hvy
    split at h
    · rename_i hn
      have heq : (Op.equal t (.pointer A') (.pointer B')).run P w = .ok (A'.isNone && B'.isNone) w := by
        exact equal_pointer hu A' B' (by rw [hA2, hB2]; exact hn) w
      rw [hA2, hB2] at heq
      split at h
      · cases h; refine ⟨?_, VR3.refl rfl⟩
        have e1 : (eqGuard .eql t X Y (.pointer A') (.pointer B')).run P w = .ok () w := by simp [eqGuard]
        simp only [Sem.run_bind, e1, Result.andThen_ok, binOp, heq, Sem.run_pure]
      · cases h; refine ⟨?_, VR3.refl rfl⟩
        have e1 : (eqGuard .neq t X Y (.pointer A') (.pointer B')).run P w = .ok () w := by simp [eqGuard]
        simp only [Sem.run_bind, e1, Result.andThen_ok, binOp, heq, Sem.run_pure]
      · cases h
    · cases h
  · cases h

theorem dom_of {m m' : LMap} {L : Nat} {b : Blk} (h : ∀ L' g p, m' L' g = some p → m L' g = some p ∨ L' = L) : ∀ L' g p, m' L' g = some p → m L' g = some p ∨ ∃ b', some (L, b) = some (L', b') := by
  intro L' g p hh
  rcases h L' g p hh with h | h
  · exact .inl h
  · exact .inr ⟨b, by rw [h]⟩
theorem func_inv {m : LMap} {fn : Fn} {xs ys : Array Value} {v' : Value} (h : VR3 m (.func fn xs ys) v') : xs = #[] ∧ ∃ ys', v' = .func fn #[] ys' ∧ All2 (VR0 m) ys.toList ys'.toList := by
  cases h with | of2 h => cases h with | of1 h => cases h with
    | of0 h => cases h with | closed h => simp [closed0] at h
    | func h => exact ⟨rfl, _, rfl, h⟩
/-- One operation: what the abstract machine says of it is what the machine does. -/
theorem lopA_sound {P : Program} {o : Oper} {T : TEnv} {h : Heap} {L : Nat} {v : Value} {e : Option (Nat × Blk)} (hl : lopA P o T h L = some (v, e)) {m : LMap} {a : Act} {w : World} (H : HRel h m w) (hT : TRel m T a) (hfr : ∀ g, m L g = none) :
    ∃ w' m' v' nx, (execOp a.eval o).run P w = .ok nx w' ∧ (nx = .value v' ∨ nx = .skip ∧ v' = undef) ∧ VR3 m' v v' ∧ EffOK h m w e m' w' := by
  have fin : ∀ {r : Option Value} {u : Value}, r.map (·, (none : Option (Nat × Blk))) = some (v, e) → r = some v ∧ e = none := by
    intro r u hr; cases r with
    | none => cases hr
    | some x => simp at hr; exact ⟨by rw [hr.1], hr.2.symm⟩
  have quiet : ∀ {v' : Value}, e = none → (execOp a.eval o).run P w = .ok (.value v') w → VR3 m v v' →
      ∃ w' m' v' nx, (execOp a.eval o).run P w = .ok nx w' ∧ (nx = .value v' ∨ nx = .skip ∧ v' = undef) ∧ VR3 m' v v' ∧ EffOK h m w e m' w' := by
    intro v' he hr hv; subst he; exact ⟨w, m, v', _, hr, .inl rfl, hv, .none H⟩
  have pureCase : (pureEval P o T).map (·, (none : Option (Nat × Blk))) = some (v, e) → ∃ w' m' v' nx, (execOp a.eval o).run P w = .ok nx w' ∧ (nx = .value v' ∨ nx = .skip ∧ v' = undef) ∧ VR3 m' v v' ∧ EffOK h m w e m' w' := by
    intro hp
    obtain ⟨hp, he⟩ := fin (u := undef) hp
    obtain ⟨r', h1, h2⟩ := pureEval_sound hp hT w
    exact quiet he h1 h2
  unfold lopA at hl
  split at hl
  · rename_i x hop
    obtain ⟨hx, he⟩ := fin (u := undef) hl
    exact quiet he (by simp only [execOp, hop, Sem.run_pure]) (ev_rel hT hx)
  · rename_i x hop
    obtain ⟨hx, he⟩ := fin (u := undef) hl
    exact quiet he (by simp only [execOp, hop, Sem.run_pure]) (ev_rel hT hx)
  · rename_i c x y hop
    obtain ⟨hx, he⟩ := fin (u := undef) hl
    obtain ⟨v', h1, h2⟩ := pickA_rel (P := P) hT hx w
    exact quiet he (by simp only [execOp, hop]; exact h1) h2
  · rename_i x hop
    obtain ⟨hx, he⟩ := fin (u := undef) hl
    unfold nilCheckA at hx
    split at hx
    · rename_i ad hv; cases hx
      have hr := ev_rel hT hv
      obtain ⟨k, o', r, hm, hp⟩ := ptr_inv hr
      exact quiet he (by simp only [execOp, hop, hp, Sem.run_pure]) (hp ▸ hr)
    · rename_i f xs ys hv; cases hx
      have hr := ev_rel hT hv
      obtain ⟨hxs, ys', hp, _⟩ := func_inv hr
      subst hxs
      exact quiet he (by simp only [execOp, hop, hp, Sem.run_pure]) (hp ▸ hr)
    · cases hx
  · rename_i s x f hop
    obtain ⟨hx, he⟩ := fin (u := undef) hl
    unfold fieldAddrA at hx
    split at hx
    · rename_i fs ad hu hv
      split at hx
      · rename_i fd hfd
        split at hx
        · rename_i hs; cases hx
          obtain ⟨k, o', r, hm, hp⟩ := ptr_inv (ev_rel hT hv)
          refine quiet (v' := .pointer (some ⟨k, o' + (aadd ad fd.offset).off, none⟩)) he ?_ (ptr_mk (by simpa using hm))
          simp only [execOp, hop, hp, Instr.fieldAt, Sem.run_bind, run_underlying hu, Result.andThen_ok, hfd, Instr.sureAddr, Sem.run_pure, fieldPlace, run_sizeOf' hs, if_neg (show ¬ P.cellsOf fd.type = 0 by omega), add_at, aadd]
          rw [Nat.add_assoc]
        · cases hx
      · cases hx
    · cases hx
  · rename_i t x ix hop
    obtain ⟨hx, he⟩ := fin (u := undef) hl
    unfold indexAddrA at hx
    split at hx
    · rename_i el ad n c k i hu hv hi
      split at hx
      · rename_i hc; cases hx
        obtain ⟨hs, h0, h1⟩ := hc
        have hn : 0 < n := by omega
        obtain ⟨kb, ob, r, c', hm, hp, _, _, _⟩ := slice_inv (ev_rel hT hv) hn
        have hi' := int_inv (ev_rel hT hi)
        refine quiet (v' := .pointer (some ⟨kb, ob + (aadd ad (i.toNat * P.cellsOf el)).off, none⟩)) he ?_ (ptr_mk (by simpa using hm))
        simp only [execOp, hop, hp, hi', Instr.indexAt, asIntOf, Sem.run_bind, run_underlying hu, Result.andThen_ok, Sem.run_pure, if_pos (show 0 ≤ i ∧ i < (n : Int) from ⟨h0, h1⟩), run_sizeOf' hs, add_at, aadd]
        rw [Nat.add_assoc]
      · cases hx
    · rename_i n el ad k i hu hv hi
      split at hx
      · rename_i hc; cases hx
        obtain ⟨hs, h0, h1⟩ := hc
        obtain ⟨kb, ob, r, hm, hp⟩ := ptr_inv (ev_rel hT hv)
        have hi' := int_inv (ev_rel hT hi)
        refine quiet (v' := .pointer (some ⟨kb, ob + (aadd ad (i.toNat * P.cellsOf el)).off, none⟩)) he ?_ (ptr_mk (by simpa using hm))
        simp only [execOp, hop, hp, hi', Instr.indexAt, asIntOf, Instr.sureAddr, Sem.run_bind, run_underlying hu, Result.andThen_ok, Sem.run_pure, if_pos (show 0 ≤ i ∧ i < (n : Int) from ⟨h0, h1⟩), run_sizeOf' hs, add_at, aadd]
        rw [Nat.add_assoc]
      · cases hx
    · cases hx
  · rename_i t x hop
    split at hl
    · rename_i ad hv
      obtain ⟨hx, he⟩ := fin (u := undef) hl
      obtain ⟨v', h1, h2⟩ := load_sound H hx (ev_rel hT hv)
      exact quiet he (by simp only [execOp, hop, Sem.run_bind, h1, Result.andThen_ok, Sem.run_pure]) h2
    · cases hl
  · rename_i t x y hop
    split at hl
    · rename_i ad u hv hu
      split at hl
      · rename_i hn
        cases hs : storeA P h t ad u with
        | none => rw [hs] at hl; cases hl
        | some Lb =>
          rw [hs] at hl; obtain ⟨L1, b⟩ := Lb; simp at hl; obtain ⟨rfl, rfl⟩ := hl
          obtain ⟨w', h1, h2, h3⟩ := store_sound H hs (ev_rel hT hv) (ev_rel hT hu) hn
          exact ⟨w', m, undef, .skip, by simp only [execOp, hop, Sem.run_bind, h1, Result.andThen_ok, Sem.run_pure], .inr ⟨rfl, rfl⟩, VR3.refl rfl, ⟨h2, h3, fun _ _ _ hh => .inl hh⟩⟩
      · cases hl
    · cases hl
  · rename_i el hop
    split at hl
    · rename_i z hz
      split at hl
      · rename_i hc; simp only [Bool.and_eq_true] at hc
        cases hl
        obtain ⟨w', m', p', h1, h2, h3, h4, h5⟩ := new_sound (P := P) H hfr (e := el) (VR3.refl (m := m) hc.1) hc.2
        refine ⟨w', m', .pointer (some p'), _, ?_, .inl rfl, h2, ⟨h3, h4, dom_of h5⟩⟩
        simp only [execOp, hop, Instr.alloc, Sem.run_bind, run_zeroValue' hz, Result.andThen_ok, h1, Sem.run_pure]
      · cases hl
    · cases hl
  · rename_i el x hop
    split at hl
    · rename_i u hu
      split at hl
      · rename_i hn; cases hl
        obtain ⟨w', m', p', h1, h2, h3, h4, h5⟩ := new_sound (P := P) H hfr (e := el) (ev_rel hT hu) hn
        refine ⟨w', m', .pointer (some p'), _, ?_, .inl rfl, h2, ⟨h3, h4, dom_of h5⟩⟩
        simp only [execOp, hop, Instr.box, Sem.run_bind, Result.andThen_ok, h1, Sem.run_pure]
      · cases hl
    · cases hl
  · rename_i t ps hop
    obtain ⟨hx, he⟩ := fin (u := undef) hl
    obtain ⟨v', h1, h2⟩ := build_sound hT hx w
    exact quiet he (by simp only [execOp, hop, Sem.run_bind, h1, Result.andThen_ok, Sem.run_pure]) h2
  · rename_i t len ps hop
    cases hb : buildSliceA P t len T ps L with
    | none => rw [hb] at hl; cases hl
    | some r =>
      rw [hb] at hl; obtain ⟨r1, r2⟩ := r; simp at hl; obtain ⟨rfl, rfl⟩ := hl
      obtain ⟨w', m', v', h1, h2, h3, h4, h5⟩ := buildSlice_sound H hT hfr hb
      refine ⟨w', m', v', _, ?_, .inl rfl, h2, ⟨h3, h4, dom_of h5⟩⟩
      simp only [execOp, hop, Sem.run_bind, h1, Result.andThen_ok, Sem.run_pure]
  · rename_i t x f hop
    split at hl
    · rename_i u hu
      obtain ⟨hx, he⟩ := fin (u := undef) hl
      obtain ⟨v', h1, h2⟩ := field_sound hx (ev_rel hT hu) w
      exact quiet he (by simp only [execOp, hop, Sem.run_bind, h1, Result.andThen_ok, Sem.run_pure]) h2
    · cases hl
  · rename_i x i hop
    split at hl
    · rename_i u hu
      obtain ⟨hx, he⟩ := fin (u := undef) hl
      obtain ⟨v', h1, h2⟩ := extract_sound (P := P) hx (ev_rel hT hu) w
      exact quiet he (by simp only [execOp, hop, Sem.run_bind, h1, Result.andThen_ok, Sem.run_pure]) h2
    · cases hl
  · rename_i fn first captured hop
    obtain ⟨hx, he⟩ := fin (u := undef) hl
    obtain ⟨v', h1, h2⟩ := makeFunc_sound (P := P) hT hx w
    exact quiet he (by simp only [execOp, hop, Sem.run_bind, h1, Result.andThen_ok, Sem.run_pure]) h2
  · rename_i t x lo hi hop
    split at hl
    · rename_i u l hh hu hlo hhi
      obtain ⟨hx, he⟩ := fin (u := undef) hl
      have eo : ∀ {z : Option Operand} {q : Option Value} {d : Nat} {i : Int}, evOpt T z = some q → boundOf d q = some i → z.map a.eval = q := by
        intro z q d i hz hb
        cases z with
        | none => simp [evOpt] at hz; subst hz; rfl
        | some z =>
          simp only [evOpt] at hz
          cases hq : ev T z with
          | none => rw [hq] at hz; cases hz
          | some q' =>
            rw [hq] at hz; simp at hz; subst hz
            rcases boundOf_int hb with ⟨hb, _⟩ | ⟨k, hb⟩
            · cases hb
            · cases hb; simp [int_inv (ev_rel hT hq)]
      have hb : ∃ d d' i i', boundOf d l = some i ∧ boundOf d' hh = some i' := by
        unfold sliceA at hx
        split at hx
        · split at hx
          · exact ⟨_, _, _, _, by assumption, by assumption⟩
          · cases hx
        · cases hx
      obtain ⟨d, d', i, i', hb1, hb2⟩ := hb
      obtain ⟨v', h1, h2⟩ := slice_sound hx (ev_rel hT hu) w
      exact quiet he (by simp only [execOp, hop, eo hlo hb1, eo hhi hb2, Option.map_none, Sem.run_bind, h1, Result.andThen_ok, Sem.run_pure]) h2
    · cases hl
  · rename_i c hop
    obtain ⟨cal, args, tys⟩ := c
    unfold callA at hl
    split at hl
    · rename_i b hb
      simp only at hb; subst hb
      split at hl
      · split at hl
        · rename_i s x t t' ha ht
          simp only at ha ht
          split at hl
          · rename_i htt; subst htt
            split at hl
            · rename_i sv xv hs hx
              obtain ⟨w', m', v', h1, h2, h3⟩ := append_sound (ty := o.type) H hfr hl (ev_rel hT hs) (ev_rel hT hx)
              refine ⟨w', m', v', _, ?_, .inl rfl, h2, h3⟩
              have ea : args = #[s, x] := by rw [← Array.toArray_toList (xs := args), ha]
              have et : tys = #[t, t] := by rw [← Array.toArray_toList (xs := tys), ht]
              subst ea et
              simp only [execOp, hop, resolve, Sem.run_bind, Sem.run_pure, Result.andThen_ok, invoke, builtin, List.map_toArray, List.map_cons, List.map_nil, h1]
            · cases hl
          · cases hl
        · cases hl
      · split at hl
        · rename_i x t ha ht
          simp only at ha ht
          have ea : args = #[x] := by rw [← Array.toArray_toList (xs := args), ha]
          have et : tys = #[t] := by rw [← Array.toArray_toList (xs := tys), ht]
          subst ea et
          split at hl
          · rename_i u hu
            cases hl
            unfold lenA at hu
            split at hu
            · rename_i el A n c hty hv; cases hu
              obtain ⟨A', c', hp, _⟩ := slice_shape (ev_rel hT hv)
              refine quiet (v' := .int .i64 n) rfl ?_ (VR3.refl rfl)
              simp only [execOp, hop, resolve, Sem.run_bind, Sem.run_pure, Result.andThen_ok, invoke, builtin, List.map_toArray, List.map_cons, List.map_nil, Builtin.len_, hp]
              simp [run_underlying hty, goInt]
            · cases hu
          · exact pureCase hl
        · cases hl
      · exact pureCase hl
    · cases hl
  · rename_i op t x y yt hop
    split at hl
    · rename_i u hu
      cases hl
      have hx : ∃ vx, ev T x = some vx := by
        cases hq : ev T x with
        | none => rw [hq] at hu; unfold eqNilA at hu; split at hu <;> simp_all
        | some vx => exact ⟨vx, rfl⟩
      have hy : ∃ vy, ev T y = some vy := by
        cases hq : ev T y with
        | none => rw [hq] at hu; unfold eqNilA at hu; split at hu <;> simp_all
        | some vx => exact ⟨vx, rfl⟩
      obtain ⟨vx, hx⟩ := hx
      obtain ⟨vy, hy⟩ := hy
      obtain ⟨h1, h2⟩ := eqNil_sound hu hx hy (ev_rel hT hx) (ev_rel hT hy) x y w
      exact quiet rfl (by simp only [execOp, hop]; rw [Sem.run_bind, h1]; rfl) h2
    · exact pureCase hl
  · exact pureCase hl
end Go.Dm
/- The abstract machine, part 1: operations on strings, bytes, made slices, copies, pointers; one operation whole. -/
set_option linter.unusedSimpArgs false
set_option linter.unusedVariables false
namespace Go.Dm
open Go

/-! ### Bytes as cells -/
def u8? : Value → Option UInt8
  | .int .u8 n => if 0 ≤ n ∧ n < 256 then some (UInt8.ofNat n.toNat) else none
  | _ => none
def u8sOf : List Value → Option (List UInt8)
  | [] => some []
  | v :: r => match u8? v, u8sOf r with
    | some b, some bs => some (b :: bs)
    | _, _ => none
theorem u8?_eq {v : Value} {b : UInt8} (h : u8? v = some b) : v = .int .u8 b.toNat := by
  unfold u8? at h
  split at h
  · rename_i n
    split at h
    · rename_i hn
      cases h
      congr 1
      have : n.toNat < 256 := by omega
      simp only [UInt8.toNat_ofNat']
      omega
    · cases h
  · cases h
theorem u8sOf_eq : ∀ {cs : List Value} {l : List UInt8}, u8sOf cs = some l → cs = Lib.byteCells l
  | [], l, h => by simp [u8sOf] at h; subst h; rfl
  | v :: r, l, h => by
    simp only [u8sOf] at h
    split at h
    · rename_i b bs hb hbs
      cases h
      rw [u8?_eq hb, u8sOf_eq hbs]; rfl
    · cases h
theorem u8sOf_byteCells : ∀ (l : List UInt8), u8sOf (Lib.byteCells l) = some l
  | [] => rfl
  | b :: l => by
    have ih := u8sOf_byteCells l
    simp only [Lib.byteCells, List.map_cons] at ih ⊢
    have hb : u8? (.int .u8 b.toNat) = some b := by
      have := b.toNat_lt
      simp only [u8?]
      rw [if_pos (by omega)]
      simp
    simp only [u8sOf, hb, ih]
theorem byteCells_closed (l : List UInt8) : (Lib.byteCells l).all closed1 = true := by
  rw [List.all_eq_true]; intro v hv
  simp only [Lib.byteCells, List.mem_map] at hv
  obtain ⟨b, _, rfl⟩ := hv; rfl
theorem strCells_closed (s : ByteArray) : (Lib.strCells s).all closed1 = true := byteCells_closed _
theorem all2_eq {m : LMap} {xs ys : List Value} (h : All2 (VR1 m) xs ys) (hc : xs.all closed1 = true) : ys = xs := h.eq_closed (fun _ _ => VR1.eq) hc

/-- What an operation of the extension leaves. -/
def XOK (P : Program) (a : Act) (o : Oper) (h : Heap) (m : LMap) (w : World) (v : Value) (e : Option (Nat × Blk)) : Prop :=
  ∃ w' m' v' nx, (execOp a.eval o).run P w = .ok nx w' ∧ (nx = .value v' ∨ nx = .skip ∧ v' = undef) ∧ VR3 m' v v' ∧ EffOK h m w e m' w'
section
variable {P : Program} {a : Act} {o : Oper} {h : Heap} {m : LMap} {w : World}
theorem XOK.quiet (H : HRel h m w) {v v' : Value} (hr : (execOp a.eval o).run P w = .ok (.value v') w) (hv : VR3 m v v') : XOK P a o h m w v none := ⟨w, m, v', _, hr, .inl rfl, hv, .none H⟩

/-! ### Parts of strings and of arrays -/
def sliceX (P : Program) (t : TypeId) (v : Value) (lo hi : Option Value) : Option Value :=
  match v with
  | .string ⟨⟨s⟩⟩ => match P.underlying t with
    | some .string => match boundOf 0 lo, boundOf s.length hi with
      | some l, some h => if 0 ≤ l ∧ l ≤ h ∧ h ≤ s.length then some (.string ⟨⟨(s.drop l.toNat).take (h - l).toNat⟩⟩) else none
      | _, _ => none
    | _ => none
  | .pointer (some a) => match P.underlying t with
    | some (.array n e) => match boundOf 0 lo, boundOf n hi with
      | some l, some h => if 0 < P.cellsOf e ∧ 0 ≤ l ∧ l ≤ h ∧ h ≤ n then
          if l = h then some (.slice (some a) 0 (if h = n then 1 else 0))
          else some (.slice (some (aadd a (l.toNat * P.cellsOf e))) (h - l).toNat (if h = n then 1 else 0)) else none
      | _, _ => none
    | _ => none
  | _ => none
theorem sliceX_sound {t : TypeId} {v v' r : Value} {lo hi : Option Value} (hs : sliceX P t v lo hi = some r) (hv : VR3 m v v') :
    ∃ r', (Instr.sliceAt t v' lo hi none).run P w = .ok r' w ∧ VR3 m r r' := by
  unfold sliceX at hs
  split at hs
  · rename_i s
    have hv' := hv.eq rfl; subst hv'
    split at hs
    rotate_left
    · cases hs
    rename_i hu
    split at hs
    · rename_i l h hl hh
      split at hs
      · rename_i hc; cases hs
        obtain ⟨h0, h1, h2⟩ := hc
        have hext : (ByteArray.mk ⟨s⟩).extract l.toNat h.toNat = ⟨⟨(s.drop l.toNat).take (h - l).toNat⟩⟩ := by
          have := ByteArray.extract_mk s l.toNat h.toNat
          rw [show h.toNat - l.toNat = (h - l).toNat by omega] at this
          exact this
        have hsz : (ByteArray.mk ⟨s⟩).size = s.length := rfl
        have x1 : l ≤ (h.toNat : Int) := by omega
        have x3 : 0 ≤ h := by omega
        refine ⟨_, ?_, VR3.refl rfl⟩
        suffices hrun : (Instr.sliceAt t (.string ⟨⟨s⟩⟩) lo hi none).run P w = .ok (.string ((ByteArray.mk ⟨s⟩).extract l.toNat h.toNat)) w by rw [hrun, hext]
        clear hext
        have hall : (ByteArray.mk ⟨s⟩).extract 0 s.length = ⟨⟨s⟩⟩ := by
          have := ByteArray.extract_mk s 0 s.length
          simp only [List.drop_zero, Nat.sub_zero, List.take_length] at this
          exact this
        rcases boundOf_int hl with ⟨rfl, rfl⟩ | ⟨k, rfl⟩ <;> rcases boundOf_int hh with ⟨rfl, rfl⟩ | ⟨k', rfl⟩ <;>
          simp [Instr.sliceAt, run_underlying hu, Instr.slice, Instr.sliceBounds, Instr.sliceBound, asIntOf, hsz, h0, h2, x1, x3, hall] <;> (try (intro hx; first | omega | (rw [Int.max_eq_left x3] at hx; omega)))
      · cases hs
    · cases hs
  · rename_i ad
    obtain ⟨k, oo, r0, hm, rfl⟩ := ptr_inv hv
    split at hs
    rotate_left
    · cases hs
    rename_i n e hu
    split at hs
    · rename_i l h hl hh
      split at hs
      · rename_i hc
        obtain ⟨hsz, h0, h1, h2⟩ := hc
        have hrun : (Instr.sliceAt t (.pointer (some ⟨k, oo + ad.off, none⟩)) lo hi none).run P w =
            .ok (.slice (some (if n = l.toNat then ⟨k, oo + ad.off, none⟩ else (⟨k, oo + ad.off, none⟩ : Addr).add (l.toNat * P.cellsOf e))) (h.toNat - l.toNat) (n - l.toNat)) w := by
          have x1 : l ≤ (h.toNat : Int) := by omega
          have x3 : 0 ≤ h := by omega
          rcases boundOf_int hl with ⟨rfl, rfl⟩ | ⟨k, rfl⟩ <;> rcases boundOf_int hh with ⟨rfl, rfl⟩ | ⟨k', rfl⟩ <;>
            simp [Instr.sliceAt, run_underlying hu, Instr.sureAddr, Instr.sliceBounds, Instr.sliceBound, asIntOf, run_sizeOf' hsz, h0, h2, x1, x3] <;> (intro hx; first | omega | (rw [Int.max_eq_left x3] at hx; omega))
        refine ⟨_, hrun, ?_⟩
        split at hs
        · rename_i hlh; subst hlh; cases hs
          rw [Nat.sub_self]
          refine .of2 (.of1 (.of0 (.empty ?_ ?_)))
          · intro hx; split at hx
            · omega
            · cases hx
          · intro s hx; split at hx <;> omega
        · rename_i hne; cases hs
          rw [if_neg (show ¬ n = l.toNat by omega), add_at, show h.toNat - l.toNat = (h - l).toNat by omega, Nat.add_assoc]
          refine .of2 (.of1 (.of0 (.slice (a := aadd ad (l.toNat * P.cellsOf e)) (r := r0) (by simpa [aadd, gen] using hm) (by omega) (by omega) ?_ ?_)))
          · intro hx; split at hx
            · omega
            · cases hx
          · intro s hx; split at hx <;> omega
      · cases hs
    · cases hs
  · cases hs

/-! ### Conversions -/
def convX (P : Program) (h : Heap) (s d : TypeId) (x : Value) : Option Value :=
  match x with
  | .slice A n c => match P.underlying s, P.underlying d with
    | some (.slice e), some .string => match P.underlying e with
      | some (.int .u8) => if P.cellsOf e = 1 then match sliceCells P h 1 (.slice A n c) with
          | some cs => match u8sOf cs with
            | some l => some (.string ⟨⟨l⟩⟩)
            | none => none
          | none => none else none
      | _ => none
    | _, _ => none
  | .pointer (some a) => match P.underlying s, P.underlying d with
    | some (.pointer t), some .unsafePointer => match h a.block with
      | some b => if b.gen = gen a ∧ 0 < P.cellsOf t ∧ a.off < b.cells.length then some (.pointer (some a)) else none
      | none => none
    | some .unsafePointer, some (.pointer u) => match h a.block with
      | some b => if b.gen = gen a ∧ b.own = true ∧ a.off = 0 ∧ b.elem = u ∧ 0 < P.cellsOf u ∧ P.cellsOf u ≤ b.cells.length then some (.pointer (some a)) else none
      | none => none
    | _, _ => none
  | _ => none
theorem liesAt_head {e : TypeId} (hc : 0 < P.cellsOf e) (count n : Nat) (hn : n ≤ count) : liesAt P P.depth e count 0 e n = true := by
  have hd : P.depth = (2 * (P.types.size + Made.depth) + 1) + 1 := rfl
  rw [hd]
  simp only [liesAt, Bool.or_eq_true]
  left
  rw [hd]
  have : P.cellsOf e ≠ 0 := by omega
  simp [rowAt, this, hn, sameLayout]
theorem sliceCells_bytes (H : HRel h m w) {A : Option Addr} {n c : Nat} {v' : Value} {cs : List Value} (hx : sliceCells P h 1 (.slice A n c) = some cs) (hv : VR3 m (.slice A n c) v') (hcl : cs.all closed1 = true) :
    ∃ A' c', v' = .slice A' n c' ∧ cs.length = n ∧ (A' = none → n = 0) ∧ ∀ a', A' = some a' → ∀ (j : Nat) (x : Value), cs[j]? = some x → w.cell? (a'.add j) = some x := by
  obtain ⟨A', c', rfl, hA, hnc, hnone, hex⟩ := slice_shape hv
  rcases Nat.eq_zero_or_pos n with h0 | h0
  · subst h0
    have : cs = [] := by cases A <;> simp [sliceCells] at hx <;> exact hx
    subst this
    exact ⟨A', c', rfl, rfl, fun _ => rfl, fun a' _ j x hj => by simp at hj⟩
  · cases A with
    | none => have := (hnone rfl).1; omega
    | some aa =>
      obtain ⟨k, oo, r, c1, hm, he, _, _, _⟩ := slice_inv hv h0
      injection he with he1 _ he2
      subst he1 he2
      obtain ⟨vs, hvs, hcell, hlen⟩ := sliceCells_rel H h0 hx hm
      have := all2_eq hvs hcl
      subst this
      refine ⟨_, _, rfl, by omega, (fun hh => by cases hh), ?_⟩
      intro a' ha j x hj
      cases ha; exact hcell j x hj
theorem run_convert_bytes {s d e : TypeId} {A' : Option Addr} {n c' : Nat} {l : List UInt8} (hs : P.underlying s = some (.slice e)) (he : P.underlying e = some (.int .u8)) (hd : P.underlying d = some .string) (hl : l.length = n)
    (hn : A' = none → n = 0) (hc : ∀ a', A' = some a' → ∀ (j : Nat) (x : Value), (Lib.byteCells l)[j]? = some x → w.cell? (a'.add j) = some x) : (convert s d (.slice A' n c')).run P w = .ok (.string ⟨l.toArray⟩) w := by
  rw [run_convert_bytes_string w s d e A' n c' hs he hd]
  cases A' with
  | none =>
    have : l = [] := List.eq_nil_of_length_eq_zero (by rw [hl]; exact hn rfl)
    subst this; rfl
  | some a' =>
    have hll := run_loadCells_list (P := P) w a' (Lib.byteCells l) (hc a' rfl)
    rw [Lib.byteCells_length, hl] at hll
    have hmap : Lib.byteCells l = (l.map (fun b => (b.toNat : Int))).map (Value.int .u8) := by simp [Lib.byteCells]
    rw [hmap] at hll
    rw [run_bytesToString w a' n c' _ hll, foldl_push_byteCells]
    congr 2
    apply ByteArray.ext
    simp
theorem convX_sound (H : HRel h m w) {s d : TypeId} {x x' v : Value} (hx : convX P h s d x = some v) (hv : VR3 m x x') : ∃ v', (convert s d x').run P w = .ok v' w ∧ VR3 m v v' := by
  unfold convX at hx
  split at hx
  · rename_i A n c
    split at hx
    · rename_i e hs hd
      split at hx
      · rename_i he
        split at hx
        · rename_i hsz
          split at hx
          · rename_i cs hcs
            split at hx
            · rename_i l hl; cases hx
              have hbc := u8sOf_eq hl
              subst hbc
              obtain ⟨A', c', rfl, hlen, hn, hc⟩ := sliceCells_bytes H hcs hv (byteCells_closed l)
              exact ⟨_, run_convert_bytes hs he hd (by simpa [Lib.byteCells] using hlen) hn hc, VR3.refl rfl⟩
            · cases hx
          · cases hx
        · cases hx
      · cases hx
    · cases hx
  · rename_i ad
    split at hx
    · rename_i t hs hd
      split at hx
      · rename_i b hb
        split at hx
        · rename_i hc; cases hx
          obtain ⟨hg, hsz, hoff⟩ := hc
          obtain ⟨k, oo, r, hm, rfl⟩ := ptr_inv hv
          rw [← hg] at hm
          obtain ⟨c, fr, hck, _, hsum, hlen, _⟩ := H.row hb hm
          obtain ⟨i, hi, hsize⟩ := info_of_cells hsz
          refine ⟨_, Lib.run_to_unsafe w (e := b.elem) (cells := c.size) ⟨k, oo + ad.off, none⟩ hs hd hi (by omega) (by simp [World.shape?, hck]) (by simp only; omega), hv⟩
        · cases hx
      · cases hx
    · rename_i u hs hd
      split at hx
      · rename_i b hb
        split at hx
        · rename_i hc; cases hx
          obtain ⟨hg, hown, hoff, hel, hsz, hlen0⟩ := hc
          obtain ⟨k, oo, r, hm, rfl⟩ := ptr_inv hv
          have hm' := hm
          rw [← hg] at hm
          obtain ⟨c, fr, hck, hfr, hsum, hlen, _⟩ := H.row hb hm
          obtain ⟨_, rfl⟩ := hfr hown
          obtain ⟨i, hi, hsize⟩ := info_of_cells hsz
          refine ⟨_, Lib.run_from_unsafe w (e := b.elem) (cells := c.size) ⟨k, 0 + ad.off, none⟩ hs hd hi (by simp [World.shape?, hck]) ?_, hv⟩
          rw [hoff, hel]
          exact liesAt_head hsz _ 1 (by
            have : P.cellsOf u ≤ c.size := by omega
            exact (Nat.le_div_iff_mul_le hsz).2 (by omega))
        · cases hx
      · cases hx
    · cases hx
  · cases hx

/-! ### Pointers and interfaces compared -/
def eqX (P : Program) (op : BinOp) (t : TypeId) (x y : Value) : Option Value :=
  match P.underlying t, x, y with
  | some (.pointer e), .pointer (some a), .pointer (some b) => if a = b ∧ (P.info? e).isSome = true then (match op with | .eql => some (.bool true) | .neq => some (.bool false) | _ => none) else none
  | some (.interface _), .iface _ _, .nilIface => match op with | .eql => some (.bool false) | .neq => some (.bool true) | _ => none
  | _, _, _ => none
theorem eqX_sound {op : BinOp} {t : TypeId} {x y x' y' v : Value} (hx : eqX P op t x y = some v) (hvx : VR3 m x x') (hvy : VR3 m y y') (X Y : Operand) :
    (do eqGuard op t X Y x' y'; binOp op t x' y' : Sem Value).run P w = .ok v w ∧ VR3 m v v := by
  unfold eqX at hx
  split at hx
  · rename_i e a b hu
    split at hx
    · rename_i hc
      obtain ⟨rfl, hi⟩ := hc
      obtain ⟨j, hj⟩ := Option.isSome_iff_exists.1 hi
      obtain ⟨k, oo, r, hm, rfl⟩ := ptr_inv hvx
      obtain ⟨k2, o2, r2, hm2, rfl⟩ := ptr_inv hvy
      rw [hm] at hm2; cases hm2
      have h1 : ∀ d : Nat, (Op.equalIn (d + 1) t (.pointer (some ⟨k, oo + a.off, none⟩)) (.pointer (some ⟨k, oo + a.off, none⟩))).run P w = .ok true w := fun d => by
        simp [Op.equalIn, run_underlying hu, sizeOf, typeInfo, hj, run_sameAddr_same]
      have h2 : (Op.equal t (.pointer (some ⟨k, oo + a.off, none⟩)) (.pointer (some ⟨k, oo + a.off, none⟩))).run P w = .ok true w := h1 9999
      split at hx
      · cases hx
        refine ⟨?_, VR3.refl rfl⟩
        have e1 : ∀ A B, (eqGuard .eql t X Y (.pointer A) (.pointer B)).run P w = .ok () w := fun A B => by simp [eqGuard]
        simp only [Sem.run_bind, e1, Result.andThen_ok, binOp, h2, Sem.run_pure]
      · cases hx
        refine ⟨?_, VR3.refl rfl⟩
        have e1 : ∀ A B, (eqGuard .neq t X Y (.pointer A) (.pointer B)).run P w = .ok () w := fun A B => by simp [eqGuard]
        simp only [Sem.run_bind, e1, Result.andThen_ok, binOp, h2, Sem.run_pure, Bool.not_true]
      · cases hx
    · cases hx
  · rename_i ms tt vv hu
    have hy := hvy.eq rfl; subst hy
    obtain ⟨v2, rfl⟩ : ∃ v2, x' = .iface tt v2 := by
      cases hvx with | of2 h => cases h with | of1 h => cases h with
        | of0 h => cases h with | closed h => simp [closed0] at h
        | iface h => exact ⟨_, rfl⟩
    have h1 : ∀ d : Nat, (Op.equalIn (d + 1) t (.iface tt v2) .nilIface).run P w = .ok false w := fun d => by
      simp [Op.equalIn, run_underlying hu]
    have h2 : (Op.equal t (.iface tt v2) .nilIface).run P w = .ok false w := h1 9999
    split at hx
    · cases hx
      refine ⟨?_, VR3.refl rfl⟩
      have e1 : (eqGuard .eql t X Y (.iface tt v2) .nilIface).run P w = .ok () w := by simp [eqGuard]
      simp only [Sem.run_bind, e1, Result.andThen_ok, binOp, h2, Sem.run_pure]
    · cases hx
      refine ⟨?_, VR3.refl rfl⟩
      have e1 : (eqGuard .neq t X Y (.iface tt v2) .nilIface).run P w = .ok () w := by simp [eqGuard]
      simp only [Sem.run_bind, e1, Result.andThen_ok, binOp, h2, Sem.run_pure, Bool.not_false]
    · cases hx
  · cases hx
end
end Go.Dm
/- The abstract machine, part 2: the builtins on strings and bytes, made slices; one operation whole. -/
set_option linter.unusedSimpArgs false
set_option linter.unusedVariables false
namespace Go.Dm
open Go
section
variable {P : Program} {a : Act} {o : Oper} {h : Heap} {m : LMap} {w : World}
/-! ### append of a string -/
def appendS (P : Program) (h : Heap) (t t' : TypeId) (s x : Value) (L : Nat) : Option (Value × Option (Nat × Blk)) :=
  match P.underlying t, P.underlying t', s, x with
  | some (.slice e), some .string, .slice A n c, .string str =>
    if P.cellsOf e = 1 ∧ P.bytesOf e = 1 then
      if str.size = 0 then some (s, none) else
      match sliceCells P h 1 s, zeroOf P e with
      | some os, some z =>
        if z.cells.size = 1 ∧ n + str.size ≤ 140737488355328 then
          if A = none ∨ c = 1 then some (.slice (some ⟨L, 0, none⟩) (n + str.size) 3, some (L, ⟨os ++ Lib.strCells str, e, 0, true⟩))
          else if c = 3 ∧ 0 < n then
            match A with
            | some a =>
              match h a.block with
              | some b =>
                if b.own = true ∧ b.elem = e ∧ a.off = 0 ∧ n = b.cells.length then
                  some (.slice (some ⟨a.block, 0, some (b.gen + 1)⟩) (n + str.size) 3, some (a.block, { b with cells := b.cells ++ Lib.strCells str, gen := b.gen + 1 }))
                else none
              | none => none
            | none => none
          else none
        else none
      | _, _ => none
    else none
  | _, _, _, _ => none
theorem strCells_size (s : ByteArray) : (Lib.strCells s).length = s.size := Lib.strCells_length s
theorem strCells_rel (s : ByteArray) : All2 (VR1 m) (Lib.strCells s) (Lib.strCells s) := closed_all2 (strCells_closed s)
theorem appendS_sound (H : HRel h m w) {t t' ty : TypeId} {s s' x x' v : Value} {e : Option (Nat × Blk)} {L : Nat} (hfr : ∀ g, m L g = none)
    (ha : appendS P h t t' s x L = some (v, e)) (hs : VR3 m s s') (hx : VR3 m x x') :
    ∃ w' m' v', (Builtin.append_ #[t, t'] ty #[s', x']).run P w = .ok v' w' ∧ VR3 m' v v' ∧ EffOK h m w e m' w' := by
  unfold appendS at ha
  split at ha
  · rename_i el A n c str hu hu'
    have hxe := hx.eq rfl; subst hxe
    obtain ⟨A', c', rfl, hA, hnc, hnone, hex⟩ := slice_shape hs
    split at ha
    · rename_i hcb
      obtain ⟨hsz, hby⟩ := hcb
      obtain ⟨i, hi, hsize⟩ := info_of_cells (P := P) (t := el) (by omega)
      have hi1 : i.size = 1 := by omega
      have hb1 : i.bytes = 1 := by have : i.bytes = P.bytesOf el := by simp [Program.bytesOf, hi]
                                   omega
      split at ha
      · rename_i hk0
        cases ha
        refine ⟨w, m, _, ?_, hs, .none H⟩
        have hf := Lib.run_firstCells_string (P := P) w 1 str
        have hsc : Lib.strCells str = [] := List.eq_nil_of_length_eq_zero (by rw [strCells_size]; exact hk0)
        have hn0 : n ≤ c' := hnc
        cases A' with
        | none => simp [Builtin.append_, run_underlying hu, run_underlying hu', run_sizeOf' (show 0 < P.cellsOf el by omega), hsz, Builtin.lenOf, hk0, hn0, Builtin.firstCells]
        | some a' => simp [Builtin.append_, run_underlying hu, run_underlying hu', run_sizeOf' (show 0 < P.cellsOf el by omega), hsz, Builtin.lenOf, hk0, hn0, Builtin.firstCells, storeCells]
      · rename_i hk0
        have hk : 0 < str.size := by omega
        split at ha
        · rename_i os z hos hz
          have hzi : i.zero = some z := by unfold zeroOf at hz; rw [hi] at hz; simpa using hz
          split at ha
          · rename_i hc
            obtain ⟨hzs, hbig⟩ := hc
            split at ha
            · rename_i hexact
              cases ha
              have hcap : n = c' := by
                rcases hexact with h | h
                · have := hnone h; omega
                · exact (hex h).symm
              subst hcap
              obtain ⟨olds, holds, hol, hrun⟩ : ∃ olds : List Value, All2 (VR1 m) os olds ∧ olds.length = n ∧
                  ∃ nc, n + str.size ≤ nc ∧ (Builtin.append_ #[t, t'] ty #[.slice A' n n, .string str]).run P w =
                  .ok (.slice (some ⟨w.heap.size, 0, none⟩) (n + str.size) nc) (w.drew.alloc (.cells ((olds ++ Lib.strCells str).toArray ++ Builtin.zeroCells z.cells (nc - (n + str.size))) el)) := by
                rcases Nat.eq_zero_or_pos n with h0 | h0
                · subst h0
                  have hos' : os = [] := by cases A <;> simp [sliceCells] at hos <;> exact hos
                  subst hos'
                  refine ⟨[], .nil, rfl, ?_⟩
                  cases A' with
                  | none =>
                    have := run_append_nil_string (P := P) w t t' ty el i z hu hu' hi hzi str hk (by omega) (by rw [hb1]; omega)
                    have e1 : (str.data.map (fun b => Value.int .u8 b.toNat)) = (Lib.strCells str).toArray := by apply Array.ext'; simp [Lib.strCells]
                    rw [e1] at this
                    exact ⟨grownCap w str.size 0 el, by have := grownCap_ge w str.size 0 el; omega, by simpa using this⟩
                  | some a' =>
                    have h48 : Builtin.nextslicecap (0 + str.size) 0 * i.bytes ≤ 281474976710656 := growslice_fits (by omega) (by rw [hb1]; omega)
                    have := Lib.run_append_grow_string (P := P) w t t' ty el i z hu hu' hi hzi a' 0 0 [] (by simp) (by simp) str (by omega) (by omega) h48
                    exact ⟨grownCap w (0 + str.size) 0 el, by have := grownCap_ge w (0 + str.size) 0 el; omega, by simpa using this⟩
                · obtain ⟨aa, hAe⟩ : ∃ aa, A = some aa := by
                    cases A with
                    | some aa => exact ⟨aa, rfl⟩
                    | none => have := (hnone rfl).1; omega
                  subst hAe
                  obtain ⟨ka, oa, ra, ca, hma, hse, _, _, _⟩ := slice_inv hs h0
                  obtain ⟨olds, holds, hoc, hol⟩ := sliceCells_rel H h0 hos hma
                  injection hse with hA1 _ hA2
                  subst hA1
                  have h48 : Builtin.nextslicecap (n + str.size) n * i.bytes ≤ 281474976710656 := growslice_fits (by omega) (by rw [hb1]; omega)
                  have := Lib.run_append_grow_string (P := P) w t t' ty el i z hu hu' hi hzi ⟨ka, oa + aa.off, none⟩ n n olds (by rw [hi1]; omega) hoc str (by omega) (by omega) h48
                  exact ⟨olds, holds, by omega, grownCap w (n + str.size) n el, grownCap_ge w _ _ _, by simpa using this⟩
              obtain ⟨nc, hncle, hrun⟩ := hrun
              obtain ⟨p, q⟩ := (drew_rel H).alloc L hfr (os ++ Lib.strCells str) (olds ++ Lib.strCells str).toArray el (Builtin.zeroCells z.cells (nc - (n + str.size))).toList (by simpa using holds.append (strCells_rel str))
              simp only [Array.toArray_toList] at p q
              refine ⟨_, _, _, hrun, ?_, p, (drew_step h m w).trans q, ?_⟩
              · have e1 : (Builtin.zeroCells z.cells (nc - (n + str.size))).toList.length = (nc - (n + str.size)) * 1 := by rw [Array.length_toList, zeroCells_size, hzs]
                have e2 : (olds ++ Lib.strCells str).toArray.size = (n + str.size) * 1 := by simp [hol, strCells_size]
                exact slice_mk (size := 1) (updm_self _ _ _ _) (by omega) hncle (room_eq (z := 0) (c := 0) e2 e1 hncle) rfl
              · exact updm_dom _
            · rename_i hnex
              split at ha
              · rename_i hcs
                split at ha
                · rename_i aa
                  split at ha
                  · rename_i b hb
                    split at ha
                    · rename_i hbk
                      obtain ⟨hown, hel, hoff, hlen⟩ := hbk
                      cases ha
                      obtain ⟨hc2, hn0⟩ := hcs
                      obtain ⟨ka, oa, ra, ca, hma, hse, hca, _, hroom⟩ := slice_inv hs hn0
                      obtain ⟨olds, holds, hoc, hol⟩ := sliceCells_rel H hn0 hos hma
                      have hgen : b.gen = gen aa := by
                        obtain ⟨n', rfl⟩ : ∃ j, n = j + 1 := ⟨n - 1, by omega⟩
                        simp only [sliceCells, hb] at hos
                        split at hos
                        · rename_i hx; exact hx.1
                        · cases hos
                      have hos2 : os = b.cells := by
                        obtain ⟨n', rfl⟩ : ∃ j, n = j + 1 := ⟨n - 1, by omega⟩
                        simp only [sliceCells, hb] at hos
                        split at hos
                        · cases hos; rw [hoff, Nat.mul_one, hlen]; simp
                        · cases hos
                      subst hos2
                      rw [← hgen] at hma
                      injection hse with hA1 _ hA2
                      subst hA1 hA2
                      have hroom' := hroom 1 hc2
                      by_cases hfits : n + str.size ≤ c'
                      · have hr : b.cells.length + (Lib.strCells str).length ≤ ra := by rw [strCells_size]; omega
                        obtain ⟨w', h1, h2, h3⟩ := H.grow hb hown hma (Lib.strCells str) (Lib.strCells str) hr (strCells_rel str) P
                        refine ⟨w', _, .slice (some ⟨ka, oa + aa.off, none⟩) (n + str.size) c', ?_, ?_, h2, h3, ?_⟩
                        · have hf := Lib.run_firstCells_string (P := P) w 1 str
                          have hst : (storeCells ((⟨ka, oa + aa.off, none⟩ : Addr).add n) (Lib.strCells str)).run P w = .ok () w' := by
                            rw [add_at, hoff, Nat.add_zero, hlen]; exact h1
                          simp [Builtin.append_, run_underlying hu, run_underlying hu', run_sizeOf' (show 0 < P.cellsOf el by omega), hsz, Builtin.lenOf, hfits, hf, hst]
                        · rw [hoff]
                          exact slice_mk (size := 1) (updm_self _ _ _ _) (by omega) hfits (by omega) rfl
                        · exact updm_dom _
                      · have h48 : Builtin.nextslicecap (n + str.size) c' * i.bytes ≤ 281474976710656 := growslice_fits (by omega) (by rw [hb1]; omega)
                        have hrun := Lib.run_append_grow_string (P := P) w t t' ty el i z hu hu' hi hzi ⟨ka, oa + aa.off, none⟩ n c' olds (by rw [hi1]; omega) hoc str (by omega) (by omega) h48
                        have hge := grownCap_ge w (n + str.size) c' el
                        have e1 : (Builtin.zeroCells z.cells (grownCap w (n + str.size) c' el - (n + str.size))).toList.length = (grownCap w (n + str.size) c' el - (n + str.size)) * 1 := by rw [Array.length_toList, zeroCells_size, hzs]
                        have e2 : (olds ++ Lib.strCells str).toArray.size = (n + str.size) * 1 := by simp [hol, strCells_size]
                        generalize grownCap w (n + str.size) c' el = nc at *
                        obtain ⟨p, q⟩ := (drew_rel H).move hb hown (b.cells ++ Lib.strCells str) (olds ++ Lib.strCells str).toArray (Builtin.zeroCells z.cells (nc - (n + str.size))).toList (by simpa using holds.append (strCells_rel str))
                        simp only [Array.toArray_toList, hel] at p q
                        have hrun' : (Builtin.append_ #[t, t'] ty #[.slice (some ⟨ka, oa + aa.off, none⟩) n c', .string str]).run P w =
                            .ok (.slice (some ⟨w.drew.heap.size, 0, none⟩) (n + str.size) nc) (w.drew.alloc (.cells ((olds ++ Lib.strCells str).toArray ++ Builtin.zeroCells z.cells (nc - (n + str.size))) el)) := by simpa using hrun
                        refine ⟨_, _, _, hrun', ?_, by rw [hel]; exact p, by rw [hel]; exact (drew_step h m w).trans q, ?_⟩
                        · exact slice_mk (size := 1) (updm_self _ _ _ _) (by omega) hge (room_eq (z := 0) (c := 0) e2 e1 hge) rfl
                        · exact updm_dom _
                    · cases ha
                  · cases ha
                · cases ha
              · cases ha
          · cases ha
        · cases ha
    · cases ha
  · cases ha

/-! ### unsafe.SliceData, unsafe.String -/
def dataX (x : Value) : Option Value :=
  match x with
  | .slice none 0 0 => some (.pointer none)
  | .slice (some a) n _ => if 0 < n then some (.pointer (some a)) else none
  | _ => none
theorem dataX_sound {ts : Array TypeId} {ty : TypeId} {x x' v : Value} (hx : dataX x = some v) (hv : VR3 m x x') : ∃ v', (Builtin.unsafeSliceData_ ts ty #[x']).run P w = .ok v' w ∧ VR3 m v v' := by
  unfold dataX at hx
  split at hx
  · cases hx
    have := hv.eq rfl; subst this
    exact ⟨_, Lib.run_unsafeSliceData_nil w ts ty 0 0, VR3.refl rfl⟩
  · split at hx
    · rename_i a n c hn; cases hx
      obtain ⟨k, oo, r, c', hm, rfl, h1, _, _⟩ := slice_inv hv hn
      exact ⟨_, Lib.run_unsafeSliceData_row w ts ty _ n c' (by omega), ptr_mk hm⟩
    · cases hx
  · cases hx
def stringX (P : Program) (h : Heap) (pt : TypeId) (p n : Value) : Option (Value × Option (Nat × Blk)) :=
  match p, n with
  | .pointer A, .int .i64 i =>
    if i = 0 then (if A = none then some (.string .empty, none) else none) else
    match A with
    | some a => match h a.block, P.underlying pt with
      | some b, some (.pointer e) => if b.gen = gen a ∧ b.own = true ∧ a.off = 0 ∧ e = b.elem ∧ P.cellsOf b.elem = 1 ∧ 0 < i ∧ i ≤ 9223372036854775807 ∧ i.toNat ≤ b.cells.length then
          match u8sOf (b.cells.take i.toNat) with
          | some l => some (.string ⟨l.toArray⟩, some (a.block, { b with own := false }))
          | none => none else none
      | _, _ => none
    | none => none
  | _, _ => none
theorem upd_at' (h : Heap) (L L' : Nat) (b : Blk) : upd h L b L' = if L' = L then some b else h L' := rfl
theorem HRel.freeze' (H : HRel h m w) {L : Nat} {b : Blk} (hb : h L = some b) : HRel (upd h L { b with own := false }) m w where
  blk L' b' hL' := by
    rw [upd_at'] at hL'
    split at hL'
    · rename_i e; subst e; cases hL'
      obtain ⟨k, o, r, c, fr, h1, h2, h3, h4, h5, h6⟩ := H.blk L' b hb
      exact ⟨k, o, r, c, fr, h1, h2, (fun h => by cases h), h4, h5, h6⟩
    · exact H.blk L' b' hL'
  sep L1 L2 b1 b2 k1 o1 r1 k2 o2 r2 hne h1 h2 ho hm1 hm2 := by
    rw [upd_at'] at h1 h2
    split at h1
    · cases h1; cases ho
    · split at h2
      · rename_i e; subst e; cases h2; exact H.sep L1 L2 b1 b k1 o1 r1 k2 o2 r2 hne h1 hb ho hm1 hm2
      · exact H.sep L1 L2 b1 b2 k1 o1 r1 k2 o2 r2 hne h1 h2 ho hm1 hm2
  inb := H.inb
  gens L' b' g p hL' hp := by
    rw [upd_at'] at hL'
    split at hL'
    · rename_i e; subst e; cases hL'; exact H.gens L' b g p hb hp
    · exact H.gens L' b' g p hL' hp
  gl := H.gl
  gh g x hx := by
    rw [upd_at']
    split
    · rename_i e; subst e
      have := H.gh g x hx
      rw [hb] at this; cases this
      have ho := GH_own hx
      cases b; simp only at ho; subst ho; rfl
    · exact H.gh g x hx
theorem frozen_rel (H : HRel h m w) {L : Nat} {b : Blk} (hL : h L = some b) (ho : b.own = true) {k oo r : Nat} (hm : m L b.gen = some (k, oo, r)) (n : Nat) :
    HRel (upd h L { b with own := false }) m (w.freeze ⟨k, 0, none⟩ n) ∧ Step h m w (upd h L { b with own := false }) m (w.freeze ⟨k, 0, none⟩ n) := by
  obtain ⟨c, fr, hck, _, _⟩ := H.row hL hm
  have hk : k < w.heap.size := (Array.getElem?_eq_some_iff.1 hck).1
  have hsize : (w.freeze ⟨k, 0, none⟩ n).heap.size = w.heap.size := by unfold World.freeze; split <;> simp
  have hne : ∀ i, i ≠ k → (w.freeze ⟨k, 0, none⟩ n).heap[i]? = w.heap[i]? := by
    intro i hi; unfold World.freeze; split
    · rfl
    · simp only [Array.getElem?_modify]; rw [if_neg (fun e => hi e.symm)]
  obtain ⟨fr', hk'⟩ : ∃ fr', (w.freeze ⟨k, 0, none⟩ n).heap[k]? = some (.cells c b.elem fr') := by
    unfold World.freeze; split
    · exact ⟨fr, hck⟩
    · simp only [Array.getElem?_modify, if_pos, hck, Option.map_some]
      exact ⟨_, rfl⟩
  have hsep : ∀ L1 b1 k1 o1 r1, L1 ≠ L → h L1 = some b1 → m L1 b1.gen = some (k1, o1, r1) → k1 ≠ k := fun L1 b1 k1 o1 r1 hn h1 h2 e => H.sep L L1 b b1 k oo r k1 o1 r1 (Ne.symm hn) hL h1 ho hm h2 e.symm
  have H2 := H.freeze' hL
  refine ⟨⟨?_, H2.sep, fun L g k o r hh => by rw [hsize]; exact H2.inb L g k o r hh, H2.gens, H2.gl, H2.gh⟩, ⟨m.le_refl, ?_, ?_, ?_, by rw [hsize]; exact Nat.le_refl _, ?_, ?_⟩⟩
  · intro L1 b1 h1
    obtain ⟨k1, o1, r1, c1, fr1, g1, g2, g3, g4⟩ := H2.blk L1 b1 h1
    by_cases e : L1 = L
    · subst e
      rw [upd_same] at h1; cases h1
      simp only at g1 g2 g4
      rw [hm] at g1; cases g1
      rw [hck] at g2; cases g2
      exact ⟨k, oo, r, c, fr', hm, hk', (fun hh => by cases hh), g4⟩
    · have h1' := h1
      rw [upd_ne _ _ e] at h1'
      exact ⟨k1, o1, r1, c1, fr1, g1, by rw [hne k1 (hsep L1 b1 k1 o1 r1 e h1' g1)]; exact g2, g3, g4⟩
  · unfold World.freeze; split <;> rfl
  · unfold World.freeze; split <;> rfl
  · unfold World.freeze; split <;> rfl
  · intro i hi hno
    exact hne i (fun e => by subst e; exact hno L b oo r hL ho hm)
  · intro L1 b1 k1 o1 r1 h1 ho1 hm1 _
    by_cases e : L1 = L
    · subst e; rw [upd_same] at h1; cases h1; cases ho1
    · rw [upd_ne _ _ e] at h1; exact ⟨L1, b1, o1, r1, h1, ho1, hm1⟩
theorem stringX_sound (H : HRel h m w) {pt it ty : TypeId} {p p' n n' v : Value} {e : Option (Nat × Blk)} (hx : stringX P h pt p n = some (v, e)) (hp : VR3 m p p') (hn : VR3 m n n') :
    ∃ w' v', (Builtin.unsafeString_ #[pt, it] ty #[p', n']).run P w = .ok v' w' ∧ VR3 m v v' ∧ EffOK h m w e m w' := by
  unfold stringX at hx
  split at hx
  · rename_i A i
    have hn' := hn.eq rfl; subst hn'
    split at hx
    · rename_i h0; subst h0
      split at hx
      · rename_i hA; subst hA; cases hx
        have := hp.eq rfl; subst this
        exact ⟨w, _, Lib.run_unsafeString_none w pt it ty none, VR3.refl rfl, .none H⟩
      · cases hx
    · split at hx
      · rename_i ad
        split at hx
        · rename_i b el hb hu
          split at hx
          · rename_i hc
            obtain ⟨hg, hown, hoff, hel, hsz, hi0, himax, hlen⟩ := hc
            subst hel
            split at hx
            · rename_i l hl
              simp only [Option.some.injEq, Prod.mk.injEq] at hx
              obtain ⟨rfl, rfl⟩ := hx
              obtain ⟨k, oo, r, hm, rfl⟩ := ptr_inv hp
              rw [← hg] at hm
              obtain ⟨c, fr, hck, hfr, hsum, hclen, hcs⟩ := H.row hb hm
              obtain ⟨_, rfl⟩ := hfr hown
              have hbc := u8sOf_eq hl
              have hll : l.length = i.toNat := by
                have := congrArg List.length hbc
                simp [Lib.byteCells] at this; omega
              have hcell : ∀ (j : Nat) (x : UInt8), l[j]? = some x → w.cell? ((⟨k, 0, none⟩ : Addr).add j) = some (.int .u8 x.toNat) := by
                intro j x hj
                have hjl := (List.getElem?_eq_some_iff.1 hj).1
                have h1 : b.cells[j]? = some (.int .u8 x.toNat) := by
                  have := congrArg (·[j]?) hbc
                  simp only [List.getElem?_take, if_pos (show j < i.toNat by omega), Lib.byteCells, List.getElem?_map, hj, Option.map_some] at this
                  exact this
                obtain ⟨v', h2, h3⟩ := hcs j _ h1
                have := h3.eq rfl; subst this
                rw [add_at]
                simp only [World.cell?, hck]
                simpa using h2
              have hrun := Lib.run_unsafeString_row (P := P) w pt it ty b.elem hu hsz k c.size (by simp [World.shape?, hck]) l (by intro e; rw [e] at hll; simp at hll; omega) (by omega) (by omega) hcell
              rw [hll, show ((i.toNat : Nat) : Int) = i by omega] at hrun
              obtain ⟨q1, q2⟩ := frozen_rel H hb hown hm i.toNat
              refine ⟨_, _, ?_, VR3.refl rfl, ⟨q1, q2, fun _ _ _ hh => .inl hh⟩⟩
              rw [hoff]; exact hrun
            · cases hx
          · cases hx
        · cases hx
      · cases hx
  · cases hx

/-! ### copy -/
def srcCells (P : Program) (h : Heap) (size k : Nat) (x : Value) : Option (List Value) :=
  match x with
  | .string s => if size = 1 then some ((Lib.strCells s).take k) else none
  | .slice A n c => (sliceCells P h size (.slice A n c)).map (·.take (k * size))
  | _ => none
def lenX : Value → Option Nat
  | .string s => some s.size
  | .slice _ n _ => some n
  | _ => none
def copyX (P : Program) (h : Heap) (t : TypeId) (d x : Value) : Option (Value × Option (Nat × Blk)) :=
  match P.underlying t, d, lenX x with
  | some (.slice e), .slice A n c, some xl =>
    if 0 < P.cellsOf e then
      match srcCells P h (P.cellsOf e) (Nat.min xl n) x with
      | some cs =>
        if Nat.min xl n = 0 then some (.int .i64 0, none) else
        match A with
        | some a => match h a.block with
          | some b => if b.gen = gen a ∧ b.own = true ∧ a.off + Nat.min xl n * P.cellsOf e ≤ b.cells.length then some (.int .i64 (Nat.min xl n : Nat), some (a.block, { b with cells := putAt b.cells a.off cs })) else none
          | none => none
        | none => none
      | none => none
    else none
  | _, _, _ => none
theorem srcCells_run (H : HRel h m w) {size k xl : Nat} {x x' : Value} {cs : List Value} (hx : srcCells P h size k x = some cs) (hxl : lenX x = some xl) (hk : k ≤ xl) (hv : VR3 m x x') (hs : 0 < size) :
    (Builtin.lenOf x').run P w = .ok xl w ∧ ∃ cs', All2 (VR1 m) cs cs' ∧ cs.length = k * size ∧ (Builtin.firstCells size k x').run P w = .ok cs'.toArray w := by
  unfold srcCells at hx
  split at hx
  · rename_i s
    simp only [lenX, Option.some.injEq] at hxl
    split at hx
    · rename_i h1; subst h1; cases hx
      have := hv.eq rfl; subst this
      refine ⟨by simp [Builtin.lenOf, hxl], (Lib.strCells s).take k, closed_all2 (by
        rw [List.all_eq_true]; intro v hv; exact List.all_eq_true.1 (strCells_closed s) v (List.mem_of_mem_take hv)), by rw [List.length_take, strCells_size]; omega, ?_⟩
      simp only [Builtin.firstCells, Sem.run_pure]
      congr 1
      apply Array.ext'
      simp [Lib.strCells, List.map_take]
    · cases hx
  · rename_i A n c
    simp only [lenX, Option.some.injEq] at hxl; subst hxl
    obtain ⟨os, hos, rfl⟩ := Option.map_eq_some_iff.1 hx
    obtain ⟨A', c', rfl, hA, hnc, hnone, hex⟩ := slice_shape hv
    refine ⟨by simp [Builtin.lenOf], ?_⟩
    rcases Nat.eq_zero_or_pos n with h0 | h0
    · have hk0 : k = 0 := by omega
      subst hk0
      refine ⟨[], by simp; exact .nil, by simp, ?_⟩
      cases A' with
      | none => simp [Builtin.firstCells]
      | some a' => simp [Builtin.firstCells, loadCells, loadCellsFrom]
    · cases A with
      | none => have := (hnone rfl).1; omega
      | some aa =>
        obtain ⟨kk, oo, r, c1, hm, he, _, _, _⟩ := slice_inv hv h0
        injection he with he1 _ he2
        subst he1 he2
        obtain ⟨vs, hvs, hcell, hlen⟩ := sliceCells_rel H h0 hos hm
        have hle : k * size ≤ n * size := Nat.mul_le_mul_right _ hk
        refine ⟨vs.take (k * size), hvs.take _, by rw [List.length_take]; have := hvs.length; omega, ?_⟩
        exact run_firstCells_some (P := P) w size k ⟨kk, oo + aa.off, none⟩ n c' (vs.take (k * size)) (by rw [List.length_take]; omega) (fun j v hj => by
          rw [List.getElem?_take] at hj
          split at hj
          · exact hcell j v hj
          · cases hj)
  · cases hx
theorem copyX_sound (H : HRel h m w) {t t' ty : TypeId} {d d' x x' v : Value} {e : Option (Nat × Blk)} (hx : copyX P h t d x = some (v, e)) (hd : VR3 m d d') (hvx : VR3 m x x') :
    ∃ w' v', (Builtin.copy_ #[t, t'] ty #[d', x']).run P w = .ok v' w' ∧ VR3 m v v' ∧ EffOK h m w e m w' := by
  unfold copyX at hx
  split at hx
  · rename_i el A n c xl hu hxl
    split at hx
    · rename_i hsz
      split at hx
      · rename_i cs hcs
        obtain ⟨hlen, cs', hcs', hcl, hfirst⟩ := srcCells_run (P := P) H hcs hxl (Nat.min_le_left _ _) hvx hsz
        obtain ⟨A', c', rfl, hA, hnc, hnone, hex⟩ := slice_shape hd
        split at hx
        · rename_i h0
          simp only [Option.some.injEq, Prod.mk.injEq] at hx
          obtain ⟨rfl, rfl⟩ := hx
          rw [h0] at hcl hfirst
          have : cs = [] := List.eq_nil_of_length_eq_zero (by rw [hcl, Nat.zero_mul])
          subst this
          cases hcs'
          refine ⟨w, .int .i64 0, ?_, VR3.refl rfl, .none H⟩
          cases A' with
          | none => simp [Builtin.copy_, run_underlying hu, hlen, run_sizeOf' hsz, h0, hfirst, goInt]
          | some a' => simp [Builtin.copy_, run_underlying hu, hlen, run_sizeOf' hsz, h0, hfirst, goInt, storeCells]
        · rename_i hk0
          split at hx
          · rename_i ad
            split at hx
            · rename_i b hb
              split at hx
              · rename_i hc
                obtain ⟨hg, hown, hfit⟩ := hc
                simp only [Option.some.injEq, Prod.mk.injEq] at hx
                obtain ⟨rfl, rfl⟩ := hx
                have hn0 : 0 < n := Nat.pos_of_ne_zero (fun h => hk0 (by subst h; exact Nat.min_zero xl))
                obtain ⟨k, oo, r, c1, hm, he, _, _, _⟩ := slice_inv hd hn0
                injection he with he1 _ he2
                subst he1 he2
                rw [← hg] at hm
                obtain ⟨w', h1, h2, h3⟩ := H.store hb hown hm ad.off cs cs' (by rw [hcl]; exact hfit) hcs' P
                refine ⟨w', _, ?_, VR3.refl rfl, ⟨h2, h3, fun _ _ _ hh => .inl hh⟩⟩
                simp only [Builtin.copy_, List.getElem?_toArray, List.getElem?_cons_zero, List.getElem?_cons_succ, Sem.run_bind, run_underlying hu, hlen, run_sizeOf' hsz, Result.andThen_ok, hfirst, h1, Sem.run_pure, goInt]
              · cases hx
            · cases hx
          · cases hx
      · cases hx
    · cases hx
  · cases hx

/-! ### make -/
def makeX (P : Program) (t : TypeId) (l c : Value) (L : Nat) : Option (Value × Option (Nat × Blk)) :=
  match P.underlying t, l, c with
  | some (.slice e), .int kl n, .int kc n' =>
    match zeroOf P e with
    | some z => if n' = n ∧ 0 ≤ n ∧ 0 < P.cellsOf e ∧ P.bytesOf e * n ≤ 140737488355328 ∧ n ≤ 9223372036854775807 ∧ z.cells.toList.all closed1 = true then
        some (.slice (some ⟨L, 0, none⟩) n.toNat 1, some (L, ⟨(sliceZero z.cells (n.toNat * P.cellsOf e)).toList, e, 0, true⟩)) else none
    | none => none
  | _, _, _ => none
theorem makeX_sound (H : HRel h m w) {t : TypeId} {l l' c c' v : Value} {e : Option (Nat × Blk)} {L : Nat} (hfr : ∀ g, m L g = none) (hx : makeX P t l c L = some (v, e)) (hl : VR3 m l l') (hc : VR3 m c c') :
    ∃ w' m' v', (Instr.makeSlice t l' c').run P w = .ok v' w' ∧ VR3 m' v v' ∧ EffOK h m w e m' w' := by
  unfold makeX at hx
  split at hx
  · rename_i el kl n kc n' hu
    have := hl.eq rfl; subst this
    have := hc.eq rfl; subst this
    split at hx
    · rename_i z hz
      split at hx
      · rename_i hcond
        obtain ⟨hnn, h0, hsz, hby, h63, hcl⟩ := hcond
        cases hnn
        simp only [Option.some.injEq, Prod.mk.injEq] at hx
        obtain ⟨rfl, rfl⟩ := hx
        obtain ⟨i, hi, hsize⟩ := info_of_cells hsz
        have hzi : i.zero = some z := by unfold zeroOf at hz; rw [hi] at hz; simpa using hz
        have hb : i.bytes = P.bytesOf el := by simp [Program.bytesOf, hi]
        have hrun := run_make (P := P) w t el i z hu hi hzi kl kc _ _ h0 (Int.le_refl _) (by rw [hb]; omega) h63
        have hmade : madeCells z.cells (n.toNat * i.size) = sliceZero z.cells (n.toNat * P.cellsOf el) := by rw [hsize]; rfl
        rw [hmade] at hrun
        obtain ⟨p, q⟩ := H.alloc L hfr (sliceZero z.cells (n.toNat * P.cellsOf el)).toList (sliceZero z.cells (n.toNat * P.cellsOf el)) el [] (closed_all2 (sliceZero_closed hcl _))
        simp only [List.toArray, Array.append_empty, List.length_nil, Nat.add_zero] at p q
        refine ⟨_, _, _, hrun, ?_, p, q, updm_dom _⟩
        rcases Nat.eq_zero_or_pos n.toNat with hn | hn
        · rw [hn]; exact .of2 (.of1 (.of0 (.empty (by simp) (by omega))))
        · exact .of2 (.of1 (.of0 (VR0.slice (a := ⟨L, 0, none⟩) (k := w.heap.size) (o := 0) (r := (sliceZero z.cells (n.toNat * P.cellsOf el)).size) (by simp [updm, gen]) hn (Nat.le_refl _) (fun _ => rfl) (by omega))))
      · cases hx
    · cases hx
  · cases hx
end
end Go.Dm
/- The abstract machine, part 3: one operation, whole. -/
set_option linter.unusedSimpArgs false
set_option linter.unusedVariables false
namespace Go.Dm
open Go
/-! ### Strings -/
def strX (op : BinOp) (x y : List UInt8) : Option Value :=
  match op with
  | .add => if x.length + y.length ≤ 9223372036854775807 then some (.string ⟨⟨x ++ y⟩⟩) else none
  | .eql => some (.bool (decide (x = y)))
  | .neq => some (.bool (!decide (x = y)))
  | _ => none
theorem str_beq (x y : List UInt8) : ((ByteArray.mk ⟨x⟩).toList == (ByteArray.mk ⟨y⟩).toList) = decide (x = y) := by
  rw [ByteArray.toList_eq, ByteArray.toList_eq]
  rw [Bool.eq_iff_iff]; simp
theorem strX_run {P : Program} {op : BinOp} {x y : List UInt8} {v : Value} (hx : strX op x y = some v) (t : TypeId) (X Y : Operand) (w : World) :
    (do eqGuard op t X Y (.string ⟨⟨x⟩⟩) (.string ⟨⟨y⟩⟩); binOp op t (.string ⟨⟨x⟩⟩) (.string ⟨⟨y⟩⟩) : Sem Value).run P w = .ok v w ∧ closed3 v = true := by
  have e1 : (eqGuard op t X Y (.string ⟨⟨x⟩⟩) (.string ⟨⟨y⟩⟩)).run P w = .ok () w := by simp only [eqGuard]; cases op <;> simp
  unfold strX at hx
  split at hx
  · split at hx
    · rename_i h; cases hx
      refine ⟨?_, rfl⟩
      rw [Sem.run_bind, e1]
      have := run_string_add_sum (P := P) w ⟨⟨x⟩⟩ ⟨⟨y⟩⟩ h
      have h2 := ByteArray.mk_append_mk x y
      show (Op.stringOp .add ⟨⟨x⟩⟩ ⟨⟨y⟩⟩).run P w = _
      rw [this]; congr 2
    · cases hx
  · cases hx
    refine ⟨?_, rfl⟩
    rw [Sem.run_bind, e1]
    show (Op.stringOp .eql ⟨⟨x⟩⟩ ⟨⟨y⟩⟩).run P w = _
    simp only [Op.stringOp, str_beq, Sem.run_pure]
  · cases hx
    refine ⟨?_, rfl⟩
    rw [Sem.run_bind, e1]
    show (Op.stringOp .neq ⟨⟨x⟩⟩ ⟨⟨y⟩⟩).run P w = _
    simp only [Op.stringOp, str_beq, Sem.run_pure]
  · cases hx
def binX (P : Program) (op : BinOp) (t : TypeId) (x y : Value) : Option Value :=
  match x, y with
  | .string ⟨⟨x⟩⟩, .string ⟨⟨y⟩⟩ => strX op x y
  | .pointer (some a), .pointer (some b) => eqX P op t (.pointer (some a)) (.pointer (some b))
  | .iface u v, .nilIface => eqX P op t (.iface u v) .nilIface
  | _, _ => none
def indexX (P : Program) (t : TypeId) (x i : Value) : Option Value :=
  match x, i with
  | .string ⟨⟨l⟩⟩, .int _ j => match P.underlying t with
    | some .string => if 0 ≤ j then (match l[j.toNat]? with | some b => some (.int .u8 b.toNat) | none => none) else none
    | _ => none
  | _, _ => none
theorem indexX_run {P : Program} {t : TypeId} {x i v : Value} (hx : indexX P t x i = some v) (w : World) : (Instr.index t x i).run P w = .ok v w ∧ closed3 v = true ∧ closed3 x = true ∧ closed3 i = true := by
  unfold indexX at hx
  split at hx
  · rename_i l k j
    split at hx
    rotate_left
    · cases hx
    rename_i hu
    split at hx
    · rename_i h0
      split at hx
      · rename_i b hb; cases hx
        refine ⟨?_, rfl, rfl, rfl⟩
        obtain ⟨hj, hbe⟩ := List.getElem?_eq_some_iff.1 hb
        have : (ByteArray.mk ⟨l⟩)[j.toNat]? = some b := by
          have hs : j.toNat < (ByteArray.mk ⟨l⟩).size := hj
          rw [getElem?_pos (ByteArray.mk ⟨l⟩) j.toNat hs]
          congr 1
        simp only [Instr.index, asIntOf, Sem.run_bind, Sem.run_pure, Result.andThen_ok, run_underlying hu, if_pos h0, this]
      · cases hx
    · cases hx
  · cases hx
def lenS (P : Program) (t : TypeId) (x : Value) : Option Value :=
  match x with
  | .string ⟨⟨l⟩⟩ => match P.underlying t with | some .string => some (.int .i64 l.length) | _ => none
  | _ => none
def capX (P : Program) (t : TypeId) (x : Value) : Option Value :=
  match x with
  | .slice _ n 1 => match P.underlying t with | some (.slice _) => some (.int .i64 n) | _ => none
  | _ => none
/-! ### Calls of builtins -/
def callX (P : Program) (T : TEnv) (h : Heap) (L : Nat) (b : Builtin) (args : List Operand) (tys : List TypeId) : Option (Value × Option (Nat × Blk)) :=
  match b, args, tys with
  | .append, [s, x], [t, t'] => match ev T s, ev T x with | some s, some x => appendS P h t t' s x L | _, _ => none
  | .copy, [d, x], [t, t'] => match ev T d, ev T x with | some d, some x => copyX P h t d x | _, _ => none
  | .unsafeSliceData, [x], [_] => match ev T x with | some x => (dataX x).map (·, none) | none => none
  | .unsafeString, [p, n], [pt, _] => match ev T p, ev T n with | some p, some n => stringX P h pt p n | _, _ => none
  | .len, [x], [t] => match ev T x with | some v => (lenS P t v).map (·, none) | none => none
  | .cap, [x], [t] => match ev T x with | some v => (capX P t v).map (·, none) | none => none
  | _, _, _ => none
/-- The operations that stand beside part G's. -/
def xop (P : Program) (o : Oper) (T : TEnv) (h : Heap) (L : Nat) : Option (Value × Option (Nat × Blk)) :=
  match o.op with
  | .slice t x lo hi none => match ev T x, evOpt T lo, evOpt T hi with
    | some v, some l, some r => (sliceX P t v l r).map (·, none)
    | _, _, _ => none
  | .convert s d x => match ev T x with | some v => (convX P h s d v).map (·, none) | none => none
  | .makeSlice t l c => match ev T l, ev T c with | some l, some c => makeX P t l c L | _, _ => none
  | .binOp op t x y _ => match ev T x, ev T y with | some u, some v => (binX P op t u v).map (·, none) | _, _ => none
  | .index t x i => match ev T x, ev T i with | some u, some v => (indexX P t u v).map (·, none) | _, _ => none
  | .makeInterface t x => match P.underlying t, ev T x with | some (.interface _), _ => none | some _, some v => if isV0 v then some (.iface t v, none) else none | _, _ => none
  | .call c => match c.callee with | .builtin b => callX P T h L b c.args.toList c.argTypes.toList | _ => none
  | _ => none
def lop (P : Program) (o : Oper) (T : TEnv) (h : Heap) (L : Nat) : Option (Value × Option (Nat × Blk)) :=
  match xop P o T h L with
  | some r => some r
  | none => lopA P o T h L
theorem lop_A {P : Program} {o : Oper} {T : TEnv} {h : Heap} {L : Nat} (hx : xop P o T h L = none) : lop P o T h L = lopA P o T h L := by unfold lop; rw [hx]
theorem lop_X {P : Program} {o : Oper} {T : TEnv} {h : Heap} {L : Nat} {r : Value × Option (Nat × Blk)} (hx : xop P o T h L = some r) : lop P o T h L = some r := by unfold lop; rw [hx]
theorem lop_cases {P : Program} {o : Oper} {T : TEnv} {h : Heap} {L : Nat} {r : Value × Option (Nat × Blk)} (hl : lop P o T h L = some r) : xop P o T h L = some r ∨ (xop P o T h L = none ∧ lopA P o T h L = some r) := by
  unfold lop at hl
  cases hx : xop P o T h L with
  | some x => rw [hx] at hl; cases hl; exact .inl rfl
  | none => rw [hx] at hl; exact .inr ⟨rfl, hl⟩
theorem boundOf_ev {m : LMap} {T : TEnv} {a : Act} (hT : TRel m T a) {z : Option Operand} {q : Option Value} {d : Nat} {i : Int} (hz : evOpt T z = some q) (hb : boundOf d q = some i) : z.map a.eval = q := by
  cases z with
  | none => simp [evOpt] at hz; subst hz; rfl
  | some z =>
    simp only [evOpt] at hz
    cases hq : ev T z with
    | none => rw [hq] at hz; cases hz
    | some q' =>
      rw [hq] at hz; simp at hz; subst hz
      rcases boundOf_int hb with ⟨hb, _⟩ | ⟨k, hb⟩
      · cases hb
      · cases hb; simp [int_inv (ev_rel hT hq)]
theorem xop_sound {P : Program} {o : Oper} {T : TEnv} {h : Heap} {L : Nat} {v : Value} {e : Option (Nat × Blk)} (hl : xop P o T h L = some (v, e)) {m : LMap} {a : Act} {w : World} (H : HRel h m w) (hT : TRel m T a) (hfr : ∀ g, m L g = none) : XOK P a o h m w v e := by
  have fin : ∀ {r : Option Value}, r.map (·, (none : Option (Nat × Blk))) = some (v, e) → r = some v ∧ e = none := by
    intro r hr; cases r with
    | none => cases hr
    | some x => simp at hr; exact ⟨by rw [hr.1], hr.2.symm⟩
  unfold xop at hl
  split at hl
  · rename_i t x lo hi hop
    split at hl
    · rename_i u l r hu hlo hhi
      obtain ⟨hx, rfl⟩ := fin hl
      have hb : ∃ d d' i i', boundOf d l = some i ∧ boundOf d' r = some i' := by
        unfold sliceX at hx
        split at hx
        · split at hx
          · split at hx
            · exact ⟨_, _, _, _, by assumption, by assumption⟩
            · cases hx
          · cases hx
        · split at hx
          · split at hx
            · exact ⟨_, _, _, _, by assumption, by assumption⟩
            · cases hx
          · cases hx
        · cases hx
      obtain ⟨d, d', i, i', hb1, hb2⟩ := hb
      obtain ⟨v', h1, h2⟩ := sliceX_sound (P := P) (w := w) hx (ev_rel hT hu)
      exact XOK.quiet H (by simp only [execOp, hop, boundOf_ev hT hlo hb1, boundOf_ev hT hhi hb2, Option.map_none, Sem.run_bind, h1, Result.andThen_ok, Sem.run_pure]) h2
    · cases hl
  · rename_i s d x hop
    split at hl
    · rename_i u hu
      obtain ⟨hx, rfl⟩ := fin hl
      obtain ⟨v', h1, h2⟩ := convX_sound (P := P) H hx (ev_rel hT hu)
      exact XOK.quiet H (by simp only [execOp, hop, Sem.run_bind, h1, Result.andThen_ok, Sem.run_pure]) h2
    · cases hl
  · rename_i t l c hop
    split at hl
    · rename_i lv cv hlv hcv
      obtain ⟨w', m', v', h1, h2, h3⟩ := makeX_sound (P := P) H hfr hl (ev_rel hT hlv) (ev_rel hT hcv)
      exact ⟨w', m', v', _, by simp only [execOp, hop, Sem.run_bind, h1, Result.andThen_ok, Sem.run_pure], .inl rfl, h2, h3⟩
    · cases hl
  · rename_i op t x y yt hop
    split at hl
    · rename_i xu yv hxu hyv
      obtain ⟨hx, rfl⟩ := fin hl
      unfold binX at hx
      split at hx
      · rename_i lx ly
        have e1 := (ev_rel hT hxu).eq rfl
        have e2 := (ev_rel hT hyv).eq rfl
        obtain ⟨h1, h2⟩ := strX_run (P := P) hx t x y w
        exact XOK.quiet (v' := v) H (by simp only [execOp, hop, e1, e2]; rw [Sem.run_bind, h1]; rfl) (VR3.refl h2)
      · obtain ⟨h1, h2⟩ := eqX_sound (P := P) (w := w) hx (ev_rel hT hxu) (ev_rel hT hyv) x y
        exact XOK.quiet (v' := v) H (by simp only [execOp, hop]; rw [Sem.run_bind, h1]; rfl) h2
      · obtain ⟨h1, h2⟩ := eqX_sound (P := P) (w := w) hx (ev_rel hT hxu) (ev_rel hT hyv) x y
        exact XOK.quiet (v' := v) H (by simp only [execOp, hop]; rw [Sem.run_bind, h1]; rfl) h2
      · cases hx
    · cases hl
  · rename_i t x i hop
    split at hl
    · rename_i xu iv hxu hiv
      obtain ⟨hx, rfl⟩ := fin hl
      obtain ⟨h1, h2, h3, h4⟩ := indexX_run (P := P) hx w
      have e1 := (ev_rel hT hxu).eq h3
      have e2 := (ev_rel hT hiv).eq h4
      exact XOK.quiet (v' := v) H (by simp only [execOp, hop, e1, e2, Sem.run_bind, h1, Result.andThen_ok, Sem.run_pure]) (VR3.refl h2)
    · cases hl
  · rename_i t x hop
    split at hl
    · cases hl
    · rename_i d u hni hd hu
      split at hl
      · rename_i hv0
        cases hl
        have hr := ev_rel hT hu
        refine XOK.quiet (v' := .iface t (a.eval x)) H ?_ (.of2 (.of1 (.iface (hr.vr0 hv0))))
        have : (Instr.makeInterface t (a.eval x)).run P w = .ok (.iface t (a.eval x)) w := by
          simp only [Instr.makeInterface, Sem.run_bind, run_underlying hd, Result.andThen_ok]
          cases d <;> first | exact (hni _ rfl).elim | rfl
        simp only [execOp, hop, Sem.run_bind, this, Result.andThen_ok, Sem.run_pure]
      · cases hl
    · cases hl
  · rename_i c hop
    obtain ⟨cal, args, tys⟩ := c
    split at hl
    · rename_i b hb
      simp only at hb hl; subst hb
      unfold callX at hl
      split at hl
      · rename_i s x t t' ha ht
        split at hl
        · rename_i sv xv hs hx
          obtain ⟨w', m', v', h1, h2, h3⟩ := appendS_sound (P := P) (ty := o.type) H hfr hl (ev_rel hT hs) (ev_rel hT hx)
          refine ⟨w', m', v', _, ?_, .inl rfl, h2, h3⟩
          have ea : args = #[s, x] := by rw [← Array.toArray_toList (xs := args), ha]
          have et : tys = #[t, t'] := by rw [← Array.toArray_toList (xs := tys), ht]
          subst ea et
          simp only [execOp, hop, resolve, Sem.run_bind, Sem.run_pure, Result.andThen_ok, invoke, builtin, List.map_toArray, List.map_cons, List.map_nil, h1]
        · cases hl
      · rename_i d x t t' ha ht
        split at hl
        · rename_i dv xv hd hx
          obtain ⟨w', v', h1, h2, h3⟩ := copyX_sound (P := P) (t' := t') (ty := o.type) H hl (ev_rel hT hd) (ev_rel hT hx)
          refine ⟨w', m, v', _, ?_, .inl rfl, h2, h3⟩
          have ea : args = #[d, x] := by rw [← Array.toArray_toList (xs := args), ha]
          have et : tys = #[t, t'] := by rw [← Array.toArray_toList (xs := tys), ht]
          subst ea et
          simp only [execOp, hop, resolve, Sem.run_bind, Sem.run_pure, Result.andThen_ok, invoke, builtin, List.map_toArray, List.map_cons, List.map_nil, h1]
        · cases hl
      · rename_i x t ha ht
        split at hl
        · rename_i xv hx
          obtain ⟨hd, rfl⟩ := fin hl
          obtain ⟨v', h1, h2⟩ := dataX_sound (P := P) (w := w) (ts := #[t]) (ty := o.type) hd (ev_rel hT hx)
          refine XOK.quiet (v' := v') H ?_ h2
          have ea : args = #[x] := by rw [← Array.toArray_toList (xs := args), ha]
          have et : tys = #[t] := by rw [← Array.toArray_toList (xs := tys), ht]
          subst ea et
          simp only [execOp, hop, resolve, Sem.run_bind, Sem.run_pure, Result.andThen_ok, invoke, builtin, List.map_toArray, List.map_cons, List.map_nil, h1]
        · cases hl
      · rename_i p n pt it ha ht
        split at hl
        · rename_i pv nv hp hn
          obtain ⟨w', v', h1, h2, h3⟩ := stringX_sound (P := P) (it := it) (ty := o.type) H hl (ev_rel hT hp) (ev_rel hT hn)
          refine ⟨w', m, v', _, ?_, .inl rfl, h2, h3⟩
          have ea : args = #[p, n] := by rw [← Array.toArray_toList (xs := args), ha]
          have et : tys = #[pt, it] := by rw [← Array.toArray_toList (xs := tys), ht]
          subst ea et
          simp only [execOp, hop, resolve, Sem.run_bind, Sem.run_pure, Result.andThen_ok, invoke, builtin, List.map_toArray, List.map_cons, List.map_nil, h1]
        · cases hl
      · rename_i x t ha ht
        split at hl
        · rename_i xv hx
          obtain ⟨hd, rfl⟩ := fin hl
          unfold lenS at hd
          split at hd
          rotate_left
          · cases hd
          rename_i l
          split at hd
          rotate_left
          · cases hd
          rename_i hty
          cases hd
          have e1 := (ev_rel hT hx).eq rfl
          refine XOK.quiet (v' := .int .i64 l.length) H ?_ (VR3.refl rfl)
          have ea : args = #[x] := by rw [← Array.toArray_toList (xs := args), ha]
          have et : tys = #[t] := by rw [← Array.toArray_toList (xs := tys), ht]
          subst ea et
          simp only [execOp, hop, resolve, Sem.run_bind, Sem.run_pure, Result.andThen_ok, invoke, builtin, List.map_toArray, List.map_cons, List.map_nil, Builtin.len_, e1]
          simp [run_underlying hty, goInt]
          rfl
        · cases hl
      · rename_i x t ha ht
        split at hl
        · rename_i xv hx
          obtain ⟨hd, rfl⟩ := fin hl
          unfold capX at hd
          split at hd
          rotate_left
          · cases hd
          rename_i A n
          split at hd
          rotate_left
          · cases hd
          rename_i el hty
          cases hd
          obtain ⟨A', c', hp, _, _, _, hc1⟩ := slice_shape (ev_rel hT hx)
          have hc1 := hc1 rfl
          rw [hc1] at hp
          refine XOK.quiet H ?_ (VR3.refl rfl)
          have ea : args = #[x] := by rw [← Array.toArray_toList (xs := args), ha]
          have et : tys = #[t] := by rw [← Array.toArray_toList (xs := tys), ht]
          subst ea et
          simp only [execOp, hop, resolve, Sem.run_bind, Sem.run_pure, Result.andThen_ok, invoke, builtin, List.map_toArray, List.map_cons, List.map_nil, Builtin.cap_, hp]
          simp [run_underlying hty, goInt]
        · cases hl
      · cases hl
    · cases hl
  · cases hl
theorem lop_sound {P : Program} {o : Oper} {T : TEnv} {h : Heap} {L : Nat} {v : Value} {e : Option (Nat × Blk)} (hl : lop P o T h L = some (v, e)) {m : LMap} {a : Act} {w : World} (H : HRel h m w) (hT : TRel m T a) (hfr : ∀ g, m L g = none) :
    ∃ w' m' v' nx, (execOp a.eval o).run P w = .ok nx w' ∧ (nx = .value v' ∨ nx = .skip ∧ v' = undef) ∧ VR3 m' v v' ∧ EffOK h m w e m' w' := by
  rcases lop_cases hl with hx | ⟨_, hx⟩
  · exact xop_sound hx H hT hfr
  · exact lopA_sound hx H hT hfr
end Go.Dm
/- The abstract machine, part H: the orders in which a region may run. -/
set_option linter.unusedSimpArgs false
set_option linter.unusedVariables false
namespace Go.Dm
open Go

/-! ### Which operations come first -/
def anc (ops : Array Oper) (k j : Nat) : Bool := ((Region.before ops).getD j 0).testBit k
/-- Every edge that binds leads back. -/
def backOK (ops : Array Oper) : Bool := ops.toList.zipIdx.all fun x => x.1.after.toList.all fun e => !Region.binds .any e || decide (e.on < x.2)

theorem before_size (ops : Array Oper) : (Region.before ops).size = ops.size := by
  unfold Region.before
  have : ∀ (l : List Oper) (acc : Array Nat), (l.foldl (fun acc o => acc.push (o.after.foldl (fun s e => if Region.binds .any e then s ||| 2 ^ e.on ||| acc.getD e.on 0 else s) 0)) acc).size = acc.size + l.length := by
    intro l
    induction l with
    | nil => intro acc; simp
    | cons o l ih => intro acc; rw [List.foldl_cons, ih]; simp; omega
  have h := this ops.toList #[]
  simpa using h
theorem before_get (ops : Array Oper) (hb : backOK ops = true) (j : Nat) (o : Oper) (ho : ops[j]? = some o) :
    (Region.before ops).getD j 0 = o.after.foldl (fun s e => if Region.binds .any e then s ||| 2 ^ e.on ||| (Region.before ops).getD e.on 0 else s) 0 := by
  -- the array grows by pushes: what stands at j never changes, and what is read for j stands below j
  have key : ∀ (l : List Oper) (acc : Array Nat), ∀ i, i < acc.size →
      (l.foldl (fun acc o => acc.push (o.after.foldl (fun s e => if Region.binds .any e then s ||| 2 ^ e.on ||| acc.getD e.on 0 else s) 0)) acc).getD i 0 = acc.getD i 0 := by
    intro l
    induction l with
    | nil => intro acc i _; rfl
    | cons o l ih =>
      intro acc i hi
      rw [List.foldl_cons, ih _ i (by simp; omega)]
      simp [Array.getD_eq_getD_getElem?, Array.getElem?_push, show i ≠ acc.size by omega]
  have hsplit : ops.toList = ops.toList.take j ++ o :: ops.toList.drop (j + 1) := by
    have hj : j < ops.toList.length := by have := (Array.getElem?_eq_some_iff.1 ho).1; simpa using this
    have : ops.toList[j] = o := by have := (Array.getElem?_eq_some_iff.1 ho).2; simpa using this
    rw [← this, ← List.drop_eq_getElem_cons hj, List.take_append_drop]
  have hjl : (ops.toList.take j).length = j := by
    have hj : j < ops.toList.length := by have := (Array.getElem?_eq_some_iff.1 ho).1; simpa using this
    have hj' : j < ops.size := by simpa using hj
    simp; omega
  have hbj : ∀ e ∈ o.after.toList, Region.binds .any e = true → e.on < j := by
    intro e he hbi
    unfold backOK at hb
    rw [List.all_eq_true] at hb
    have hm : (o, j) ∈ ops.toList.zipIdx := by
      rw [List.mem_zipIdx_iff_getElem?]; simpa using ho
    have h2 := hb _ hm
    rw [List.all_eq_true] at h2
    have h3 := h2 e he
    simpa [hbi] using h3
  have hB : Region.before ops = (ops.toList.foldl (fun acc o => acc.push (o.after.foldl (fun s e => if Region.binds .any e then s ||| 2 ^ e.on ||| acc.getD e.on 0 else s) 0)) #[]) := by
    unfold Region.before; rw [← Array.foldl_toList]
  let F := fun (acc : Array Nat) (o : Oper) => acc.push (o.after.foldl (fun s e => if Region.binds .any e then s ||| 2 ^ e.on ||| acc.getD e.on 0 else s) 0)
  have hsz : ∀ (l : List Oper) (acc : Array Nat), (l.foldl F acc).size = acc.size + l.length := by
    intro l
    induction l with
    | nil => intro acc; simp
    | cons o l ih => intro acc; rw [List.foldl_cons, ih]; simp [F]; omega
  let A := (ops.toList.take j).foldl F #[]
  have hA : A.size = j := by simp only [A]; rw [hsz]; simp only [hjl]; simp
  have hBe : Region.before ops = (ops.toList.drop (j + 1)).foldl F (F A o) := by
    rw [hB]
    conv => lhs; rw [hsplit]
    rw [List.foldl_append, List.foldl_cons]
  have hlow : ∀ i, i < j → (Region.before ops).getD i 0 = A.getD i 0 := by
    intro i hi
    rw [hBe, key _ _ i (by simp [F]; omega)]
    simp [F, Array.getD_eq_getD_getElem?, Array.getElem?_push, show i ≠ A.size by omega]
  have hat : (Region.before ops).getD j 0 = o.after.foldl (fun s e => if Region.binds .any e then s ||| 2 ^ e.on ||| A.getD e.on 0 else s) 0 := by
    rw [hBe, key _ _ j (by simp [F]; omega)]
    have e1 : ∀ x : Nat, (A.push x).getD j 0 = x := by
      intro x
      have h1 := Array.getElem?_push_size (xs := A) (x := x)
      rw [hA] at h1
      simp only [Array.getD_eq_getD_getElem?, h1, Option.getD_some]
    exact e1 _
  rw [hat, ← Array.foldl_toList, ← Array.foldl_toList]
  have hcongr : ∀ (l : List Edge) (s : Nat), (∀ e ∈ l, Region.binds .any e = true → e.on < j) →
      l.foldl (fun s e => if Region.binds .any e then s ||| 2 ^ e.on ||| A.getD e.on 0 else s) s = l.foldl (fun s e => if Region.binds .any e then s ||| 2 ^ e.on ||| (Region.before ops).getD e.on 0 else s) s := by
    intro l
    induction l with
    | nil => intro s _; rfl
    | cons e l ih =>
      intro s h
      simp only [List.foldl_cons]
      have : (if Region.binds .any e then s ||| 2 ^ e.on ||| A.getD e.on 0 else s) = (if Region.binds .any e then s ||| 2 ^ e.on ||| (Region.before ops).getD e.on 0 else s) := by
        split
        · rename_i hbi; rw [hlow e.on (h e (by simp) hbi)]
        · rfl
      rw [this]
      exact ih _ fun e' he' => h e' (by simp [he'])
  exact hcongr _ 0 hbj

/-- An ancestor is a parent, or a parent's ancestor. -/
theorem anc_cases {ops : Array Oper} (hb : backOK ops = true) {k j : Nat} {o : Oper} (ho : ops[j]? = some o) (h : anc ops k j = true) :
    ∃ e ∈ o.after.toList, Region.binds .any e = true ∧ e.on < j ∧ (k = e.on ∨ anc ops k e.on = true) := by
  unfold anc at h
  rw [before_get ops hb j o ho, ← Array.foldl_toList] at h
  have hbj : ∀ e ∈ o.after.toList, Region.binds .any e = true → e.on < j := by
    intro e he hbi
    unfold backOK at hb
    rw [List.all_eq_true] at hb
    have h2 := hb (o, j) (by rw [List.mem_zipIdx_iff_getElem?]; simpa using ho)
    rw [List.all_eq_true] at h2
    simpa [hbi] using h2 e he
  have key : ∀ (l : List Edge) (s : Nat), (∀ e ∈ l, e ∈ o.after.toList) → (l.foldl (fun s e => if Region.binds .any e then s ||| 2 ^ e.on ||| (Region.before ops).getD e.on 0 else s) s).testBit k = true →
      s.testBit k = true ∨ ∃ e ∈ o.after.toList, Region.binds .any e = true ∧ (k = e.on ∨ anc ops k e.on = true) := by
    intro l
    induction l with
    | nil => intro s _ h; exact .inl h
    | cons e l ih =>
      intro s hm h
      rw [List.foldl_cons] at h
      rcases ih _ (fun e' he' => hm e' (by simp [he'])) h with h | h
      · split at h
        · rename_i hbi
          simp only [Nat.testBit_or, Bool.or_eq_true, Nat.testBit_two_pow, decide_eq_true_eq] at h
          rcases h with (h | h) | h
          · exact .inl h
          · exact .inr ⟨e, hm e (by simp), hbi, .inl h.symm⟩
          · exact .inr ⟨e, hm e (by simp), hbi, .inr h⟩
        · exact .inl h
      · exact .inr h
  rcases key _ 0 (fun _ h => h) h with h | ⟨e, he, hbi, h⟩
  · simp at h
  · exact ⟨e, he, hbi, hbj e he hbi, h⟩
theorem anc_lt {ops : Array Oper} (hb : backOK ops = true) {k : Nat} : ∀ {j : Nat}, anc ops k j = true → k < j := by
  intro j
  induction j using Nat.strongRecOn with
  | _ j ih =>
    intro h
    cases ho : ops[j]? with
    | none =>
      unfold anc at h
      have : (Region.before ops).getD j 0 = 0 := by
        have hs := before_size ops
        have hj : ops.size ≤ j := by simpa using ho
        simp [Array.getD_eq_getD_getElem?, Array.getElem?_eq_none (show (Region.before ops).size ≤ j by omega)]
      rw [this] at h; simp at h
    | some o =>
      obtain ⟨e, he, hbi, hlt, h⟩ := anc_cases hb ho h
      rcases h with h | h
      · omega
      · have := ih e.on hlt h; omega

/-! ### The orders -/
def Ready (ops : Array Oper) (S : List Nat) (i : Nat) : Prop := ∀ o, ops[i]? = some o → ∀ e ∈ o.after.toList, Region.binds .any e = true → e.on ∈ S
inductive Lin (ops : Array Oper) : List Nat → List Nat → Prop
  | done {S : List Nat} : (∀ i, i < ops.size → i ∈ S) → Lin ops S []
  | step {S : List Nat} {i : Nat} {rest : List Nat} : i < ops.size → i ∉ S → Ready ops S i → Lin ops (S ++ [i]) rest → Lin ops S (i :: rest)

theorem nodup_length : ∀ {l l' : List Nat}, l.Nodup → (∀ x ∈ l, x ∈ l') → l.length ≤ l'.length
  | [], _, _, _ => by simp
  | a :: l, l', hn, hs => by
    have ha := hs a (by simp)
    obtain ⟨h1, h2⟩ := List.nodup_cons.1 hn
    have := nodup_length (l := l) (l' := l'.erase a) h2 (fun x hx => by
      have hxa : x ≠ a := fun e => h1 (e ▸ hx)
      rw [List.mem_erase_of_ne hxa]; exact hs x (by simp [hx]))
    rw [List.length_erase_of_mem ha] at this
    have hp : 0 < l'.length := List.length_pos_of_mem ha
    simp; omega
theorem lin_go {ops : Array Oper} (hb : backOK ops = true) : ∀ (fuel t : Nat) (listed : Array Bool) (acc : List Nat), listed.size = ops.size →
    (∀ i, i < ops.size → (listed.getD i true = true ↔ i ∈ acc.reverse)) → acc.Nodup → (∀ i ∈ acc, i < ops.size) → fuel + acc.length = ops.size →
    ∃ rest, Region.linearise.go .any ops fuel t listed acc = acc.reverse ++ rest ∧ Lin ops acc.reverse rest := by
  intro fuel
  induction fuel with
  | zero =>
    intro t listed acc hsz hl hnd hlt hlen
    refine ⟨[], by simp [Region.linearise.go], .done ?_⟩
    intro i hi
    -- acc is a list of size many distinct numbers below size
    have hperm : ∀ j, j < ops.size → j ∈ acc := by
      intro j hj
      apply Classical.byContradiction
      intro hno
      have := nodup_length (l := j :: acc) (l' := List.range ops.size) (List.nodup_cons.2 ⟨hno, hnd⟩) (by
        intro x hx; rcases List.mem_cons.1 hx with rfl | hx
        · simpa using hj
        · simpa using hlt x hx)
      simp at this; omega
    simpa using hperm i hi
  | succ fuel ih =>
    intro t listed acc hsz hl hnd hlt hlen
    simp only [Region.linearise.go]
    generalize hrs : (List.range ops.size).filter (fun i => !listed.getD i true && ((ops[i]?).map (fun o => o.after.all fun e => !Region.binds .any e || listed.getD e.on false)).getD false) = rs
    have hne : rs ≠ [] := by
      -- the least number that is not listed is ready
      have hex : ∃ i, i < ops.size ∧ i ∉ acc := by
        apply Classical.byContradiction
        intro hno
        have hall : ∀ i, i < ops.size → i ∈ acc := fun i hi => Classical.byContradiction fun hni => hno ⟨i, hi, hni⟩
        have := nodup_length (l := List.range ops.size) (l' := acc) List.nodup_range (fun x hx => hall x (by simpa using hx))
        simp at this; omega
      have hmin : ∃ i, i < ops.size ∧ i ∉ acc ∧ ∀ j, j < i → j ∈ acc := by
        obtain ⟨i, h1, h2⟩ := hex
        induction i using Nat.strongRecOn with
        | _ i ihi =>
          by_cases h : ∀ j, j < i → j ∈ acc
          · exact ⟨i, h1, h2, h⟩
          · have ⟨j, hj⟩ := Classical.not_forall.1 h
            have ⟨hj1, hj2⟩ := Classical.not_imp.1 hj
            exact ihi j hj1 (by omega) hj2
      obtain ⟨i, h1, h2, h3⟩ := hmin
      intro he
      have : i ∈ rs := by
        rw [← hrs, List.mem_filter]
        refine ⟨by simpa using h1, ?_⟩
        have hf : listed.getD i true = false := by
          cases hx : listed.getD i true with
          | false => rfl
          | true => exact absurd (by simpa using (hl i h1).1 hx) h2
        have ho : ops[i]? = some ops[i] := Array.getElem?_eq_getElem h1
        simp only [hf, ho, Bool.not_false, Bool.true_and, Option.map_some, Option.getD_some]
        rw [Array.all_eq_true_iff_forall_mem]
        intro e hm
        cases hbi : Region.binds .any e with
        | false => simp
        | true =>
          simp only [Bool.not_true, Bool.false_or]
          have hlt2 : e.on < i := by
            unfold backOK at hb
            rw [List.all_eq_true] at hb
            have h4 := hb (ops[i], i) (by rw [List.mem_zipIdx_iff_getElem?]; simp)
            rw [List.all_eq_true] at h4
            have h5 := h4 e (by simpa using hm)
            simpa [hbi] using h5
          have h6 := (hl e.on (by omega)).2 (by simpa using h3 e.on hlt2)
          simp only [Array.getD_eq_getD_getElem?] at h6 ⊢
          rw [Array.getElem?_eq_getElem (show e.on < listed.size by omega)] at h6 ⊢
          simpa using h6
      rw [he] at this; cases this
    have hlen0 : 0 < rs.length := List.length_pos_iff.2 hne
    have hget : rs[t % rs.length]? = some (rs[t % rs.length]'(Nat.mod_lt _ hlen0)) := List.getElem?_eq_getElem _
    generalize hi : rs[t % rs.length]'(Nat.mod_lt _ hlen0) = i at hget
    have himem : i ∈ rs := by rw [← hi]; exact List.getElem_mem _
    rw [hget]
    simp only
    rw [← hrs, List.mem_filter] at himem
    obtain ⟨hi1, hi2⟩ := himem
    simp only [List.mem_range] at hi1
    simp only [Bool.and_eq_true, Bool.not_eq_true'] at hi2
    have hni : i ∉ acc := fun hh => by
      have := (hl i hi1).2 (by simpa using hh); rw [hi2.1] at this; cases this
    obtain ⟨rest, h1, h2⟩ := ih (t / rs.length) (listed.setIfInBounds i true) (i :: acc) (by simpa using hsz) (by
      intro j hj
      simp only [Array.getD_eq_getD_getElem?, Array.getElem?_setIfInBounds]
      by_cases hji : i = j
      · subst hji; simp [show i < listed.size by omega]
      · have := hl j hj
        simp only [Array.getD_eq_getD_getElem?] at this
        simp [if_neg hji, this, Ne.symm hji]) (List.nodup_cons.2 ⟨hni, hnd⟩) (by
      intro j hj; rcases List.mem_cons.1 hj with rfl | hj
      · exact hi1
      · exact hlt j hj) (by simp; omega)
    refine ⟨i :: rest, by rw [h1]; simp, .step hi1 (by simpa using hni) ?_ (by simpa using h2)⟩
    intro o ho e he hbi
    rw [ho] at hi2
    simp only [Option.map_some, Option.getD_some, Array.all_eq_true_iff_forall_mem] at hi2
    have h3 := hi2.2 e (by simpa using he)
    simp only [hbi, Bool.not_true, Bool.false_or] at h3
    have hlt2 : e.on < i := by
      unfold backOK at hb
      rw [List.all_eq_true] at hb
      have h4 := hb (o, i) (by rw [List.mem_zipIdx_iff_getElem?]; simpa using ho)
      rw [List.all_eq_true] at h4
      have h5 := h4 e he
      simpa [hbi] using h5
    refine (hl e.on (by omega)).1 ?_
    simp only [Array.getD_eq_getD_getElem?] at h3 ⊢
    rw [Array.getElem?_eq_getElem (show e.on < listed.size by omega)] at h3 ⊢
    simpa using h3
theorem lin_linearise {ops : Array Oper} (hb : backOK ops = true) (t : Nat) : Lin ops [] (Region.linearise .any ops t) := by
  obtain ⟨rest, h1, h2⟩ := lin_go hb ops.size t (Array.replicate ops.size false) [] (by simp) (by intro i hi; simp [Array.getD_eq_getD_getElem?, hi]) (by simp) (by simp) (by simp)
  unfold Region.linearise
  rw [h1]; simpa using h2
end Go.Dm
/- The abstract machine, part I: calls, regions in the order of the text, control. -/
set_option linter.unusedSimpArgs false
set_option linter.unusedVariables false
namespace Go.Dm
open Go

def Enterable (P : Program) (g : FuncId) : Prop := ∃ fn, P.funcs[g]? = some fn ∧ (fn.name == "runtime.NumGoroutine") = false ∧ fn.body.isNone = false
/-- A stretch of a run, with what labels it made. -/
structure Mv (h : Heap) (m : LMap) (w : World) (n : Nat) (h' : Heap) (m' : LMap) (w' : World) (n' : Nat) : Prop where
  step : Step h m w h' m' w'
  le : n ≤ n'
  lab : ∀ L g p, m' L g = some p → (∃ g' p', m L g' = some p') ∨ n ≤ L
theorem Mv.refl (h : Heap) (m : LMap) (w : World) (n : Nat) : Mv h m w n h m w n := ⟨Step.refl h m w, Nat.le_refl n, fun _ _ _ x => .inl ⟨_, _, x⟩⟩
theorem Mv.trans {h1 h2 h3 : Heap} {m1 m2 m3 : LMap} {w1 w2 w3 : World} {n1 n2 n3 : Nat} (a : Mv h1 m1 w1 n1 h2 m2 w2 n2) (b : Mv h2 m2 w2 n2 h3 m3 w3 n3) : Mv h1 m1 w1 n1 h3 m3 w3 n3 where
  step := a.step.trans b.step
  le := Nat.le_trans a.le b.le
  lab L g p hp := by
    rcases b.lab L g p hp with ⟨g', p', h⟩ | h
    · exact a.lab L g' p' h
    · exact .inr (Nat.le_trans a.le h)
/-- A call: of a function that has a body, or of one that is done at once. -/
def CallP (P : Program) (g : FuncId) (args : Array Value) (w : World) (Q : Ending → World → Prop) : Prop :=
  (Enterable P g ∧ Calls P g args w Q) ∨ ∃ v w', (callFunc g args).run P w = .ok (.value v) w' ∧ Q (.returned v) w'
theorem CallP.mono {P : Program} {g : FuncId} {args : Array Value} {w : World} {Q Q' : Ending → World → Prop} (h : CallP P g args w Q) (hq : ∀ e w', Q e w' → Q' e w') : CallP P g args w Q' := by
  rcases h with ⟨h1, h2⟩ | ⟨v, w', h1, h2⟩
  · exact .inl ⟨h1, h2.mono hq⟩
  · exact .inr ⟨v, w', h1, hq _ _ h2⟩
/-- A function's contract over abstract values and heaps. -/
structure Spec (P : Program) (g : FuncId) (args : List Value) (h : Heap) (n : Nat) (Q : Value → Heap → Nat → Prop) : Prop where
  run : ∀ m w args', All2 (VR3 m) args args' → HRel h m w → (∀ L g p, m L g = some p → L < n) →
    CallP P g args'.toArray w fun e w' => ∃ r r' h' n' m', e = .returned r' ∧ VR3 m' r r' ∧ HRel h' m' w' ∧ (∀ L g p, m' L g = some p → L < n') ∧ Mv h m w n h' m' w' n' ∧ Q r h' n'
theorem Spec.mono {P : Program} {g : FuncId} {args : List Value} {h : Heap} {n : Nat} {Q Q' : Value → Heap → Nat → Prop} (hs : Spec P g args h n Q) (hq : ∀ r h' n', Q r h' n' → Q' r h' n') : Spec P g args h n Q' :=
  ⟨fun m w args' ha H hd => (hs.run m w args' ha H hd).mono fun e w' ⟨r, r', h', n', m', h1, h2, h3, h4, h5, h6⟩ => ⟨r, r', h', n', m', h1, h2, h3, h4, h5, hq _ _ _ h6⟩⟩

def wantedA (ops : Array Oper) (o : Oper) (T : TEnv) : Option Bool :=
  match o.guard with
  | none => some true
  | some (j, want) => match (ops[j]?).bind (·.dst) with
    | some d => match find T d with
      | some (.bool b) => some (b == want)
      | some (.tuple vs) => if vs.isEmpty then some false else none
      | _ => none
    | none => none
theorem wanted_rel {ops : Array Oper} {o : Oper} {T : TEnv} {b : Bool} (hw : wantedA ops o T = some b) {m : LMap} {a : Act} (hT : TRel m T a) : Region.wanted o (yielded ops a.tmps) = b := by
  unfold wantedA at hw
  unfold Region.wanted
  split at hw
  · rename_i hg; rw [hg]; cases hw; rfl
  · rename_i j want hg
    rw [hg]
    split at hw
    · rename_i d hd
      have hy : yielded ops a.tmps j = match a.tmps[d]? with | some (.bool b) => some b | _ => none := by
        unfold yielded; rw [hd]; rfl
      split at hw
      · rename_i b' hf
        cases hw
        obtain ⟨h1, h2⟩ := hT.tm d _ hf
        have h3 := bool_inv h2
        have h4 : a.tmps[d]? = some (.bool b') := by
          rw [Array.getElem?_eq_getElem h1]; simp only [Array.getD_eq_getD_getElem?, Array.getElem?_eq_getElem h1, Option.getD_some] at h3; rw [h3]
        simp only [hy, h4]
        cases b' <;> cases want <;> rfl
      · rename_i vs hf
        split at hw
        · rename_i he
          cases hw
          have : vs = #[] := by simpa using he
          subst this
          obtain ⟨h1, h2⟩ := hT.tm d _ hf
          have h3 := h2.eq (by rfl)
          have h4 : a.tmps[d]? = some (.tuple #[]) := by
            rw [Array.getElem?_eq_getElem h1]; simp only [Array.getD_eq_getD_getElem?, Array.getElem?_eq_getElem h1, Option.getD_some] at h3; rw [h3]
          simp only [hy, h4]
          cases want <;> rfl
        · cases hw
      · cases hw
    · cases hw
def putA (T : TEnv) (d : Option Tmp) (v : Value) : TEnv := match d with | some d => (d, v) :: T | none => T
theorem putA_rel {m : LMap} {T : TEnv} {a : Act} (h : TRel m T a) {v v' : Value} (hv : VR3 m v v') {d : Option Tmp} (hd : ∀ x, d = some x → x < a.tmps.size) : TRel m (putA T d v) (a.put d v') := by
  cases d with
  | none => exact h
  | some d => exact h.put hv d (hd d rfl)
def allocs (n : Nat) : Option (Nat × Blk) → Nat
  | some (L, _) => if L = n then n + 1 else n
  | none => n
theorem lopA_eff {P : Program} {o : Oper} {T : TEnv} {h : Heap} {n : Nat} {v : Value} {L : Nat} {b : Blk} (hl : lopA P o T h n = some (v, some (L, b))) : L = n ∨ ∃ b0, h L = some b0 := by
  have nomap : ∀ {r : Option Value}, r.map (·, (none : Option (Nat × Blk))) = some (v, some (L, b)) → False := by
    intro r hr; cases r <;> simp at hr
  unfold lopA at hl
  split at hl
  · exact absurd hl (fun h => nomap h)
  · exact absurd hl (fun h => nomap h)
  · exact absurd hl (fun h => nomap h)
  · exact absurd hl (fun h => nomap h)
  · exact absurd hl (fun h => nomap h)
  · exact absurd hl (fun h => nomap h)
  · split at hl
    · exact absurd hl (fun h => nomap h)
    · cases hl
  · split at hl
    · split at hl
      · simp only [Option.map_eq_some_iff] at hl
        obtain ⟨Lb, hs, h2⟩ := hl
        unfold storeA at hs
        split at hs
        · rename_i b0 hb
          split at hs
          · cases hs; cases h2; exact .inr ⟨b0, hb⟩
          · cases hs
        · cases hs
      · cases hl
    · cases hl
  · split at hl
    · split at hl
      · cases hl; exact .inl rfl
      · cases hl
    · cases hl
  · split at hl
    · split at hl
      · cases hl; exact .inl rfl
      · cases hl
    · cases hl
  · exact absurd hl (fun h => nomap h)
  · rename_i t len ps _
    cases hb : buildSliceA P t len T ps n with
    | none => rw [hb] at hl; cases hl
    | some r => rw [hb] at hl; simp at hl; exact .inl hl.2.1.symm
  · split at hl
    · exact absurd hl (fun h => nomap h)
    · cases hl
  · split at hl
    · exact absurd hl (fun h => nomap h)
    · cases hl
  · exact absurd hl (fun h => nomap h)
  · split at hl
    · exact absurd hl (fun h => nomap h)
    · cases hl
  · rename_i c _
    unfold callA at hl
    split at hl
    · split at hl
      · split at hl
        · split at hl
          · split at hl
            · unfold appendA at hl
              split at hl
              · split at hl
                · split at hl
                  · cases hl
                  · split at hl
                    · split at hl
                      · split at hl
                        · cases hl; exact .inl rfl
                        · split at hl
                          · split at hl
                            · split at hl
                              · rename_i b0 hb
                                split at hl
                                · cases hl; exact .inr ⟨_, hb⟩
                                · cases hl
                              · cases hl
                            · cases hl
                          · cases hl
                      · cases hl
                    · cases hl
                · cases hl
              · cases hl
            · cases hl
          · cases hl
        · cases hl
      · split at hl
        · split at hl
          · cases hl
          · exact absurd hl (fun h => nomap h)
        · cases hl
      · exact absurd hl (fun h => nomap h)
    · cases hl
  · split at hl
    · cases hl
    · exact absurd hl (fun h => nomap h)
  · exact absurd hl (fun h => nomap h)

theorem appendS_eff {P : Program} {h : Heap} {t t' : TypeId} {s x v : Value} {n L : Nat} {b : Blk} (hl : appendS P h t t' s x n = some (v, some (L, b))) : L = n ∨ ∃ b0, h L = some b0 := by
  unfold appendS at hl
  split at hl
  · split at hl
    · split at hl
      · cases hl
      · split at hl
        · split at hl
          · split at hl
            · cases hl; exact .inl rfl
            · split at hl
              · split at hl
                · split at hl
                  · rename_i b0 hb
                    split at hl
                    · cases hl; exact .inr ⟨_, hb⟩
                    · cases hl
                  · cases hl
                · cases hl
              · cases hl
          · cases hl
        · cases hl
    · cases hl
  · cases hl
theorem copyX_eff {P : Program} {h : Heap} {t : TypeId} {d x v : Value} {L : Nat} {b : Blk} (hl : copyX P h t d x = some (v, some (L, b))) : ∃ b0, h L = some b0 := by
  unfold copyX at hl
  split at hl
  · split at hl
    · split at hl
      · split at hl
        · cases hl
        · split at hl
          · split at hl
            · rename_i b0 hb
              split at hl
              · cases hl; exact ⟨_, hb⟩
              · cases hl
            · cases hl
          · cases hl
      · cases hl
    · cases hl
  · cases hl
theorem stringX_eff {P : Program} {h : Heap} {t : TypeId} {p n v : Value} {L : Nat} {b : Blk} (hl : stringX P h t p n = some (v, some (L, b))) : ∃ b0, h L = some b0 := by
  unfold stringX at hl
  split at hl
  · split at hl
    · split at hl <;> cases hl
    · split at hl
      · split at hl
        · rename_i b0 e hb _
          split at hl
          · split at hl
            · cases hl; exact ⟨_, hb⟩
            · cases hl
          · cases hl
        · cases hl
      · cases hl
  · cases hl
theorem makeX_eff {P : Program} {t : TypeId} {l c v : Value} {n L : Nat} {b : Blk} (hl : makeX P t l c n = some (v, some (L, b))) : L = n := by
  unfold makeX at hl
  split at hl
  · split at hl
    · split at hl
      · cases hl; rfl
      · cases hl
    · cases hl
  · cases hl
theorem xop_eff {P : Program} {o : Oper} {T : TEnv} {h : Heap} {n : Nat} {v : Value} {L : Nat} {b : Blk} (hl : xop P o T h n = some (v, some (L, b))) : L = n ∨ ∃ b0, h L = some b0 := by
  have nomap : ∀ {r : Option Value}, r.map (·, (none : Option (Nat × Blk))) = some (v, some (L, b)) → False := by
    intro r hr; cases r <;> simp at hr
  unfold xop at hl
  split at hl
  · split at hl
    · exact (nomap hl).elim
    · cases hl
  · split at hl
    · exact (nomap hl).elim
    · cases hl
  · split at hl
    · exact .inl (makeX_eff hl)
    · cases hl
  · split at hl
    · exact (nomap hl).elim
    · cases hl
  · split at hl
    · exact (nomap hl).elim
    · cases hl
  · split at hl
    · cases hl
    · split at hl <;> cases hl
    · cases hl
  · split at hl
    · unfold callX at hl
      split at hl
      · split at hl
        · exact appendS_eff hl
        · cases hl
      · split at hl
        · exact .inr (copyX_eff hl)
        · cases hl
      · split at hl
        · exact (nomap hl).elim
        · cases hl
      · split at hl
        · exact .inr (stringX_eff hl)
        · cases hl
      · split at hl
        · exact (nomap hl).elim
        · cases hl
      · split at hl
        · exact (nomap hl).elim
        · cases hl
      · cases hl
    · cases hl
  · cases hl
theorem lop_eff {P : Program} {o : Oper} {T : TEnv} {h : Heap} {n : Nat} {v : Value} {L : Nat} {b : Blk} (hl : lop P o T h n = some (v, some (L, b))) : L = n ∨ ∃ b0, h L = some b0 := by
  rcases lop_cases hl with hx | ⟨_, hx⟩
  · exact xop_eff hx
  · exact lopA_eff hx

/-! ### Calls -/
def callOf (o : Oper) : Option Call := match o.op with | .call c => (match c.callee with | .value _ => some c | _ => none) | _ => none
def calleeA (T : TEnv) (c : Call) : Option (FuncId × List Value) :=
  match c.callee with
  | .value f => match ev T f, evAll T c.args.toList with
    | some (.func (.func g) _ cap), some vs => some (g, vs ++ cap.toList)
    | _, _ => none
  | _ => none
theorem call_run {P : Program} {o : Oper} {c : Call} (ho : callOf o = some c) {T : TEnv} {g : FuncId} {vs : List Value} (hc : calleeA T c = some (g, vs)) {m : LMap} {a : Act} (hT : TRel m T a) (w : World) :
    ∃ args' : List Value, (execOp a.eval o).run P w = (callFunc g args'.toArray).run P w ∧ All2 (VR3 m) vs args' := by
  unfold callOf at ho
  split at ho
  · rename_i c' hop
    split at ho
    · rename_i f hcal
      cases ho
      unfold calleeA at hc
      rw [hcal] at hc
      simp only at hc
      split at hc
      · rename_i g' first cap vs' hv hvs
        cases hc
        obtain ⟨hx, ys, hp, hcap⟩ := func_inv (ev_rel hT hv)
        refine ⟨c.args.toList.map a.eval ++ ys.toList, ?_, (evAll_rel hT hvs).append (hcap.mono fun _ _ h => .of2 (.of1 (.of0 h)))⟩
        simp only [execOp, hop, resolve, hcal, Sem.run_bind, Deferred.ofValue, hp, Sem.run_pure, Result.andThen_ok, invoke]
        congr 2
        apply Array.ext'
        simp
      · cases hc
    · cases ho
  · cases ho

theorem upon_call {P : Program} {g : FuncId} {args : Array Value} {w : World} {Q0 : Ending → World → Prop} (hc : CallP P g args w Q0) {o : Oper} {a : Act} {next : Act → World → Prop} {Q : Exit → Act → World → Prop}
    (hn : ∀ e w', Q0 e w' → ∃ r, e = .returned r ∧ next (a.put o.dst r) w') : o.upon P a next Q ((callFunc g args).run P w) := by
  rcases hc with ⟨⟨fn, hf, hnm, hbd⟩, hc⟩ | ⟨v, w', h1, h2⟩
  · have : (callFunc g args).run P w = .ok (.enter g args) w := by
      simp only [callFunc, Sem.run_bind, run_program, Sem.run_pure, Result.andThen_ok, hf, hnm, hbd, Bool.false_eq_true, if_false]
    rw [this, Oper.upon_enter]
    refine hc.mono ?_
    intro e w' hq
    obtain ⟨r, rfl, hx⟩ := hn e w' hq
    exact hx
  · rw [h1, Oper.upon_value]
    obtain ⟨r, hr, hx⟩ := hn _ w' h2
    cases hr; exact hx

/-! ### States -/
structure SRel (N : Nat) (T : TEnv) (h : Heap) (n : Nat) (m : LMap) (a : Act) (w : World) : Prop where
  heap : HRel h m w
  tmps : TRel m T a
  defers : a.defers = []
  size : a.tmps.size = N
  dom : ∀ L g p, m L g = some p → L < n
/-- What holds behind a stretch that began at h0, m0, w0. -/
def QR (N n0 : Nat) (h0 : Heap) (m0 : LMap) (w0 : World) (Q : Exit → TEnv → Heap → Nat → Prop) : Exit → Act → World → Prop :=
  fun x a w => ∃ T h n m, SRel N T h n m a w ∧ Mv h0 m0 w0 n0 h m w n ∧ Q x T h n
def Sat (P : Program) (N : Nat) (c : Code) (T : TEnv) (h : Heap) (n : Nat) (Q : Exit → TEnv → Heap → Nat → Prop) : Prop :=
  ∀ m a w, SRel N T h n m a w → c.wp P (QR N n h m w Q) a w
theorem QR.mono {N n0 n1 : Nat} {h0 h1 : Heap} {m0 m1 : LMap} {w0 w1 : World} {Q Q' : Exit → TEnv → Heap → Nat → Prop} (hs : Mv h0 m0 w0 n0 h1 m1 w1 n1) (hq : ∀ x T h n, Q x T h n → Q' x T h n) {x : Exit} {a : Act} {w : World}
    (h : QR N n1 h1 m1 w1 Q x a w) : QR N n0 h0 m0 w0 Q' x a w := by
  obtain ⟨T, h, n, m, x1, x2, x3⟩ := h
  exact ⟨T, h, n, m, x1, hs.trans x2, hq _ _ _ _ x3⟩
theorem Sat.mono {P : Program} {N : Nat} {c : Code} {T : TEnv} {h : Heap} {n : Nat} {Q Q' : Exit → TEnv → Heap → Nat → Prop} (hs : Sat P N c T h n Q) (hq : ∀ x T h n, Q x T h n → Q' x T h n) : Sat P N c T h n Q' :=
  fun m a w hr => Code.wp_mono (fun _ _ _ hh => hh.mono (Mv.refl h m w n) hq) (hs m a w hr)
/-- Slots forgotten. -/
def TLe (T' T : TEnv) : Prop := ∀ t v, find T' t = some v → find T t = some v
theorem Sat.weaken {P : Program} {N : Nat} {c : Code} {T T' : TEnv} {h : Heap} {n : Nat} {Q : Exit → TEnv → Heap → Nat → Prop} (hs : Sat P N c T' h n Q) (ht : TLe T' T) : Sat P N c T h n Q :=
  fun m a w hr => hs m a w ⟨hr.heap, ⟨fun t v hf => hr.tmps.tm t v (ht t v hf), hr.tmps.gl⟩, hr.defers, hr.size, hr.dom⟩

/-! ### Control -/
section
variable {P : Program} {N : Nat} {T : TEnv} {h : Heap} {n : Nat} {Q : Exit → TEnv → Heap → Nat → Prop}
theorem Sat.skip (hq : Q .normal T h n) : Sat P N .skip T h n Q := fun m a w hr => wp_skip ⟨T, h, n, m, hr, Mv.refl h m w n, hq⟩
theorem Sat.ret (hq : Q .ret T h n) : Sat P N .ret T h n Q := fun m a w hr => wp_ret ⟨T, h, n, m, hr, Mv.refl h m w n, hq⟩
theorem Sat.exit {id : Nat} (hq : Q (.exit id) T h n) : Sat P N (.exit id) T h n Q := fun m a w hr => wp_exit ⟨T, h, n, m, hr, Mv.refl h m w n, hq⟩
def thenA (next : TEnv → Heap → Nat → Prop) (Q : Exit → TEnv → Heap → Nat → Prop) : Exit → TEnv → Heap → Nat → Prop
  | .normal, T, h, n => next T h n
  | e, T, h, n => Q e T h n
theorem Sat.seq {x y : Code} (hx : Sat P N x T h n (thenA (fun T h n => Sat P N y T h n Q) Q)) : Sat P N (.seq x y) T h n Q := by
  intro m a w hr
  refine wp_seq (Code.wp_mono ?_ (hx m a w hr))
  intro e a1 w1 hh
  obtain ⟨T1, h1, n1, m1, x1, x2, x3⟩ := hh
  cases e with
  | normal => exact Code.wp_mono (fun _ _ _ hh => hh.mono x2 fun _ _ _ _ h => h) (x3 m1 a1 w1 x1)
  | _ => exact ⟨T1, h1, n1, m1, x1, x2, x3⟩
theorem Sat.cond {c : Operand} {x y : Code} {t : Bool} (hc : ev T c = some (.bool t)) (hx : Sat P N (if t then x else y) T h n Q) : Sat P N (.cond c x y) T h n Q :=
  fun m a w hr => wp_cond (bool_inv (ev_rel hr.tmps hc)) (hx m a w hr)
theorem Sat.ite {c : Operand} {x y : Code} {t : Bool} (hc : ev T c = some (.bool t)) (hx : t = true → Sat P N x T h n Q) (hy : t = false → Sat P N y T h n Q) : Sat P N (.cond c x y) T h n Q := by
  cases t
  · exact Sat.cond hc (hy rfl)
  · exact Sat.cond hc (hx rfl)
def blockA (id : Nat) (Q : Exit → TEnv → Heap → Nat → Prop) : Exit → TEnv → Heap → Nat → Prop
  | .exit id', T, h, n => if id' = id then Q .normal T h n else Q (.exit id') T h n
  | e, T, h, n => Q e T h n
theorem Sat.block {id : Nat} {c : Code} (hc : Sat P N c T h n (blockA id Q)) : Sat P N (.block id c) T h n Q := by
  intro m a w hr
  refine wp_block (Code.wp_mono ?_ (hc m a w hr))
  intro e a1 w1 hh
  obtain ⟨T1, h1, n1, m1, x1, x2, x3⟩ := hh
  cases e with
  | exit id' =>
    simp only [Exit.inBlock]
    simp only [blockA] at x3
    split
    · rename_i hid; rw [if_pos hid] at x3; exact ⟨T1, h1, n1, m1, x1, x2, x3⟩
    · rename_i hid; rw [if_neg hid] at x3; exact ⟨T1, h1, n1, m1, x1, x2, x3⟩
  | _ => exact ⟨T1, h1, n1, m1, x1, x2, x3⟩
/-- A loop: an invariant indexed by what it is good for, and a measure. -/
theorem Sat.loop {ι : Type} {c : Code} (I : ι → TEnv → Heap → Nat → Prop) (μ : ι → Nat) (i0 : ι) (h0 : I i0 T h n)
    (round : ∀ i T h n, I i T h n → Sat P N c T h n (thenA (fun T h n => ∃ j, I j T h n ∧ μ j < μ i) Q)) : Sat P N (.loop c) T h n Q := by
  intro m a w hr
  -- the concrete loop, over the indices, by their measure
  have key : ∀ k i, μ i = k → ∀ T1 h1 n1 m1 a1 w1, I i T1 h1 n1 → SRel N T1 h1 n1 m1 a1 w1 → Mv h m w n h1 m1 w1 n1 →
      ∀ (b : Frame) (kk : List Item) (cs : List Frame), ∃ e a' w', QR N n h m w Q e a' w' ∧ Arrives P (lone (b.at a1 (.code c :: .inLoop c :: kk)) cs w1) b kk cs e a' w' := by
    intro k
    induction k using Nat.strongRecOn with
    | _ k ih =>
      intro i hk T1 h1 n1 m1 a1 w1 hI hr1 hs1 b kk cs
      obtain ⟨e, a2, w2, hq, harr⟩ := round i T1 h1 n1 hI m1 a1 w1 hr1 b (.inLoop c :: kk) cs
      obtain ⟨T2, h2, n2, m2, x1, x2, x3⟩ := hq
      cases e with
      | normal =>
        obtain ⟨j, hj, hlt⟩ := x3
        obtain ⟨e3, a3, w3, hq3, harr3⟩ := ih (μ j) (hk ▸ hlt) j rfl T2 h2 n2 m2 a2 w2 hj x1 (hs1.trans x2) b kk cs
        exact ⟨e3, a3, w3, hq3, .of_steps (Steps.trans harr (.one step_inLoop)) harr3⟩
      | exit id => exact ⟨_, a2, w2, ⟨T2, h2, n2, m2, x1, hs1.trans x2, x3⟩, .pass (x := .inLoop c) rfl (fun _ _ => .inl (by simp)) harr⟩
      | goto l => exact ⟨_, a2, w2, ⟨T2, h2, n2, m2, x1, hs1.trans x2, x3⟩, .pass (x := .inLoop c) rfl (fun _ _ => .inl (by simp)) harr⟩
      | ret => exact ⟨_, a2, w2, ⟨T2, h2, n2, m2, x1, hs1.trans x2, x3⟩, .pass (x := .inLoop c) rfl (fun _ _ => .inl (by simp)) harr⟩
      | panic ch => exact ⟨_, a2, w2, ⟨T2, h2, n2, m2, x1, hs1.trans x2, x3⟩, .pass (x := .inLoop c) rfl (fun _ _ => .inl (by simp)) harr⟩
      | outgrown => exact ⟨_, a2, w2, ⟨T2, h2, n2, m2, x1, hs1.trans x2, x3⟩, .pass (x := .inLoop c) rfl (fun _ _ => .inl (by simp)) harr⟩
  intro b kk cs
  obtain ⟨e, a', w', hq, harr⟩ := key (μ i0) i0 rfl T h n m a w h0 hr (Mv.refl h m w n) b kk cs
  exact ⟨e, a', w', hq, .of_steps (.one step_loop) harr⟩
end

/-! ### A region in the order of the text -/
def RunSeq (P : Program) (ops : Array Oper) : List Oper → TEnv → Heap → Nat → (TEnv → Heap → Nat → Prop) → Prop
  | [], T, h, n, K => K T h n
  | o :: rest, T, h, n, K =>
    match wantedA ops o T with
    | none => False
    | some b =>
      if b = true then
        match callOf o with
        | some c => match calleeA T c with
          | some (g, vs) => Spec P g vs h n fun r h' n' => RunSeq P ops rest (putA T o.dst r) h' n' K
          | none => False
        | none => match lop P o T h n with
          | some (v, e) => RunSeq P ops rest (putA T o.dst v) (eff h e) (allocs n e) K
          | none => False
      else RunSeq P ops rest (putA T o.dst undef) h n K
def dstsOK (ops : Array Oper) (N : Nat) : Bool := ops.toList.all fun o => match o.dst with | some d => decide (d < N) | none => true
theorem fresh_of {m : LMap} {n : Nat} (hd : ∀ L g p, m L g = some p → L < n) : ∀ g, m n g = none := by
  intro g; cases hh : m n g with
  | none => rfl
  | some p => exact absurd (hd _ _ _ hh) (Nat.lt_irrefl n)
theorem dom_step {P : Program} {o : Oper} {T : TEnv} {h : Heap} {n : Nat} {v : Value} {e : Option (Nat × Blk)} (hl : lop P o T h n = some (v, e)) {m m' : LMap} {w w' : World} (H : HRel h m w) (hd : ∀ L g p, m L g = some p → L < n)
    (he : EffOK h m w e m' w') : ∀ L g p, m' L g = some p → L < allocs n e := by
  intro L g p hp
  rcases he.dom L g p hp with h1 | ⟨b, hb⟩
  · have := hd L g p h1
    unfold allocs; split
    · split <;> omega
    · exact this
  · subst hb
    rcases lop_eff hl with h2 | ⟨b0, h2⟩
    · subst h2; simp [allocs]
    · obtain ⟨k, o', r, _, _, h3, _⟩ := H.blk L b0 h2
      have := hd _ _ _ h3
      simp only [allocs]; split <;> omega
theorem allocs_le (n : Nat) (e : Option (Nat × Blk)) : n ≤ allocs n e := by unfold allocs; split; split <;> omega; omega
theorem lab_step {P : Program} {o : Oper} {T : TEnv} {h : Heap} {n : Nat} {v : Value} {e : Option (Nat × Blk)} (hl : lop P o T h n = some (v, e)) {m m' : LMap} {w w' : World} (H : HRel h m w)
    (he : EffOK h m w e m' w') : ∀ L g p, m' L g = some p → (∃ g' p', m L g' = some p') ∨ n ≤ L := by
  intro L g p hp
  rcases he.dom L g p hp with h1 | ⟨b, hb⟩
  · exact .inl ⟨_, _, h1⟩
  · subst hb
    rcases lop_eff hl with h2 | ⟨b0, h2⟩
    · subst h2; exact .inr (Nat.le_refl _)
    · obtain ⟨k, o', r, _, _, h3, _⟩ := H.blk L b0 h2
      exact .inl ⟨_, _, h3⟩
theorem seq_sound {P : Program} {ops : Array Oper} {N : Nat} {Q : Exit → TEnv → Heap → Nat → Prop} {h0 : Heap} {m0 : LMap} {w0 : World} {n0 : Nat} : ∀ (l : List Oper), (∀ o ∈ l, ∀ d, o.dst = some d → d < N) → ∀ (T : TEnv) (h : Heap) (n : Nat) (m : LMap) (a : Act) (w : World),
    RunSeq P ops l T h n (Q .normal) → SRel N T h n m a w → Mv h0 m0 w0 n0 h m w n → wpList P ops (QR N n0 h0 m0 w0 Q) l a w := by
  intro l
  induction l with
  | nil => intro _ T h n m a w hrun hr hs; exact ⟨T, h, n, m, hr, hs, hrun⟩
  | cons o rest ih =>
    intro hdst T h n m a w hrun hr hs
    have hdst' : ∀ o' ∈ rest, ∀ d, o'.dst = some d → d < N := fun o' ho' => hdst o' (by simp [ho'])
    have hd : ∀ x, o.dst = some x → x < a.tmps.size := fun x hx => by rw [hr.size]; exact hdst o (by simp) x hx
    unfold RunSeq at hrun
    unfold wpList
    split at hrun
    · exact hrun.elim
    rename_i b hw
    split at hrun
    rotate_left
    · rename_i hbf
      have hbf' : b = false := by simpa using hbf
      subst hbf'
      rw [if_neg (by rw [wanted_rel hw hr.tmps]; simp)]
      exact ih hdst' _ h n m _ w hrun ⟨hr.heap, putA_rel hr.tmps (VR3.refl rfl) hd, by rw [Act.put_defers]; exact hr.defers, by rw [Act.put_size]; exact hr.size, hr.dom⟩ hs
    · rename_i hbt
      subst hbt
      rw [if_pos (by rw [wanted_rel hw hr.tmps])]
      left
      unfold Oper.wp
      split at hrun
      · rename_i c hc
        split at hrun
        · rename_i g vs hcal
          obtain ⟨args', hex, hargs⟩ := call_run (P := P) hc hcal hr.tmps w
          rw [hex]
          refine upon_call (hrun.run m w args' hargs hr.heap hr.dom) ?_
          rintro e w' ⟨r, r', h', n', m', rfl, h2, h3, h4, h5, h6⟩
          refine ⟨r', rfl, ?_⟩
          exact ih hdst' _ h' n' m' _ w' h6 ⟨h3, putA_rel (hr.tmps.mono h5.step.le) h2 hd, by rw [Act.put_defers]; exact hr.defers, by rw [Act.put_size]; exact hr.size, h4⟩ (hs.trans h5)
        · exact hrun.elim
      · split at hrun
        · rename_i v e hlop
          obtain ⟨w', m', v', nx, h1, h2, h3, h4⟩ := lop_sound hlop hr.heap hr.tmps (fresh_of hr.dom)
          have hnext : wpList P ops (QR N n0 h0 m0 w0 Q) rest (a.put o.dst v') w' :=
            ih hdst' _ _ _ m' _ w' hrun ⟨h4.rel, putA_rel (hr.tmps.mono h4.step.le) h3 hd, by rw [Act.put_defers]; exact hr.defers, by rw [Act.put_size]; exact hr.size, dom_step hlop hr.heap hr.dom h4⟩ (hs.trans ⟨h4.step, allocs_le n e, lab_step hlop hr.heap h4⟩)
          rw [h1]
          rcases h2 with rfl | ⟨rfl, rfl⟩
          · exact hnext
          · exact hnext
        · exact hrun.elim
theorem Sat.region {P : Program} {N : Nat} {T : TEnv} {h : Heap} {n : Nat} {Q : Exit → TEnv → Heap → Nat → Prop} {id : Nat} {ops : Array Oper} (hd : dstsOK ops N = true) (hrun : RunSeq P ops ops.toList T h n (Q .normal)) :
    Sat P N (.region id ops false) T h n Q := by
  intro m a w hr
  refine wp_region_list (seq_sound ops.toList ?_ T h n m a w hrun hr (Mv.refl h m w n))
  intro o ho d hod
  unfold dstsOK at hd
  rw [List.all_eq_true] at hd
  have := hd o ho
  rw [hod] at this
  simpa using this
end Go.Dm
/- The abstract machine, part J: a region whose order is open comes to what it comes to in the order of the text. -/
set_option linter.unusedSimpArgs false
set_option linter.unusedVariables false
namespace Go.Dm
open Go

/-! ### What an operation's outcome hangs on -/
def labOf : Option Value → List Nat
  | some (.pointer (some a)) => [a.block]
  | some (.slice (some a) _ _) => [a.block]
  | _ => []
/-- Builtins that read memory. -/
def readB : Builtin → Bool
  | .append | .copy | .unsafeString => true
  | _ => false
def lreads (o : Oper) (T : TEnv) : List Nat :=
  match o.op with
  | .load _ x => labOf (ev T x)
  | .store _ x _ => labOf (ev T x)
  | .convert _ _ x => labOf (ev T x)
  | .call c => (match c.callee with | .builtin b => if readB b then c.args.toList.flatMap fun x => labOf (ev T x) else [] | _ => [])
  | _ => []
theorem evParts_congr {T T' : TEnv} : ∀ {ps : List (Nat × Operand)}, (∀ p ∈ ps, ev T p.2 = ev T' p.2) → evParts T ps = evParts T' ps
  | [], _ => rfl
  | (i, x) :: r, h => by
    simp only [evParts]
    rw [h (i, x) (by simp), evParts_congr (fun p hp => h p (by simp [hp]))]
theorem evAll_congr {T T' : TEnv} : ∀ {ps : List Operand}, (∀ p ∈ ps, ev T p = ev T' p) → evAll T ps = evAll T' ps
  | [], _ => rfl
  | x :: r, h => by
    simp only [evAll]
    rw [h x (by simp), evAll_congr (fun p hp => h p (by simp [hp]))]
theorem pureSlow_congr {P : Program} {o : Oper} {T T' : TEnv} (h : ∀ x ∈ o.op.operands, ev T x = ev T' x) : pureSlow P o T = pureSlow P o T' := by
  unfold pureSlow
  have e1 : (o.op.operands.all fun x => (ev T x).any closed3) = (o.op.operands.all fun x => (ev T' x).any closed3) := by
    rw [Bool.eq_iff_iff, Array.all_eq_true_iff_forall_mem, Array.all_eq_true_iff_forall_mem]
    constructor
    · intro hh x hx; rw [← h x hx]; exact hh x hx
    · intro hh x hx; rw [h x hx]; exact hh x hx
  rw [e1]
  split
  · rename_i hc
    simp only [Bool.and_eq_true] at hc
    rw [execOp_congr hc.1 (ρ' := evD T') (fun x hx => by simp only [evD, h x hx])]
  · rfl
theorem mem_operands_call {c : Call} {x : Operand} (hx : x ∈ c.args.toList) : x ∈ (Op.call c).operands := by
  simp only [Op.operands, Call.operands]
  split <;> simp_all
theorem mapM_ev_congr {T T' : TEnv} : ∀ {xs : List Operand}, (∀ x ∈ xs, ev T x = ev T' x) → xs.mapM (ev T) = xs.mapM (ev T')
  | [], _ => rfl
  | x :: xs, h => by rw [List.mapM_cons, List.mapM_cons, h x (by simp), mapM_ev_congr fun y hy => h y (by simp [hy])]
theorem fastEval_congr {P : Program} {o : Oper} {T T' : TEnv} (h : ∀ x ∈ o.op.operands, ev T x = ev T' x) : fastEval P o T = fastEval P o T' := by
  unfold fastEval
  cases hop : o.op <;> rw [hop] at h <;> simp only
  case binOp op t x y yt => rw [h x (by simp [Op.operands]), h y (by simp [Op.operands])]
  case unOp op t x => rw [h x (by simp [Op.operands])]
  case convert s d x => rw [h x (by simp [Op.operands])]
  case index t x i => rw [h x (by simp [Op.operands]), h i (by simp [Op.operands])]
  case call c =>
    have hargs : ∀ x ∈ c.args.toList, ev T x = ev T' x := fun x hx => h x (mem_operands_call hx)
    split
    · rename_i b x xs hc ha
      rw [hargs x (by rw [ha]; simp), mapM_ev_congr (T := T) (T' := T') fun y hy => hargs y (by rw [ha]; simp [hy])]
    · rfl
theorem pureEval_congr {P : Program} {o : Oper} {T T' : TEnv} (h : ∀ x ∈ o.op.operands, ev T x = ev T' x) : pureEval P o T = pureEval P o T' := by
  unfold pureEval
  rw [fastEval_congr h, pureSlow_congr h]
theorem sliceCells_congr {P : Program} {h h' : Heap} {size : Nat} {v : Value} (hh : ∀ L ∈ labOf (some v), h L = h' L) : sliceCells P h size v = sliceCells P h' size v := by
  unfold sliceCells
  split
  · rfl
  · rename_i a n c _
    have := hh a.block (by simp [labOf])
    rw [this]
  · rfl
theorem appendA_congr {P : Program} {h h' : Heap} {t : TypeId} {s x : Value} {L : Nat} (h1 : ∀ L ∈ labOf (some s), h L = h' L) (h2 : ∀ L ∈ labOf (some x), h L = h' L) : appendA P h t s x L = appendA P h' t s x L := by
  unfold appendA
  split
  · rename_i e A n c B k d hu
    rw [sliceCells_congr (size := P.cellsOf e) h1, sliceCells_congr (size := P.cellsOf e) h2]
    cases A with
    | none => rfl
    | some a => simp only [h1 a.block (by simp [labOf])]
  · rfl
theorem lopA_congr {P : Program} {o : Oper} {T T' : TEnv} {h h' : Heap} {n : Nat} (hT : ∀ x ∈ o.op.operands, ev T x = ev T' x) (hh : ∀ L ∈ lreads o T, h L = h' L) : lopA P o T h n = lopA P o T' h' n := by
  have hp := pureEval_congr (P := P) hT
  unfold lopA
  unfold lreads at hh
  cases hop : o.op <;> rw [hop] at hT hh <;> (try simp only [Op.operands] at hT) <;> (try simp only at hh) <;> (try simp only) <;> try (exact congrArg (Option.map (·, (none : Option (Nat × Blk)))) hp)
  case move x => rw [hT x (by simp)]
  case assign x => rw [hT x (by simp)]
  case pick a b c => rw [hT a (by simp), hT b (by simp), hT c (by simp)]
  case nilCheck x => rw [hT x (by simp)]
  case fieldAddr s x f => rw [hT x (by simp)]
  case indexAddr t x ix => rw [hT x (by simp), hT ix (by simp)]
  case load t x =>
    have e := hT x (by simp)
    rw [← e]
    cases hv : ev T x with
    | none => rfl
    | some v =>
      rw [hv] at hh
      cases v with
      | pointer A => cases A with
        | none => rfl
        | some a => simp only [loadA, hh a.block (by simp [labOf])]
      | _ => rfl
  case store t x y =>
    have e := hT x (by simp)
    rw [← e, ← hT y (by simp)]
    cases hv : ev T x with
    | none => rfl
    | some v =>
      rw [hv] at hh
      cases v with
      | pointer A => cases A with
        | none => rfl
        | some a =>
          cases ev T y with
          | none => rfl
          | some u => simp only [storeA, hh a.block (by simp [labOf])]
      | _ => rfl
  case box e x => rw [hT x (by simp)]
  case build t ps =>
    have : evParts T ps.toList = evParts T' ps.toList := evParts_congr fun p hp => hT p.2 (by simp; exact ⟨p.1, by simpa using hp⟩)
    simp only [buildA, this]
  case buildSlice t len ps =>
    have : evParts T ps.toList = evParts T' ps.toList := evParts_congr fun p hp => hT p.2 (by simp; exact ⟨p.1, by simpa using hp⟩)
    simp only [buildSliceA, this]
  case field t x f => rw [hT x (by simp)]
  case extract x i => rw [hT x (by simp)]
  case makeFunc fn first captured =>
    have : evAll T captured.toList = evAll T' captured.toList := evAll_congr fun p hp => hT p (by simp; right; simpa using hp)
    simp only [makeFuncA, this]
  case slice t x lo hi mx =>
    cases mx with
    | some _ => exact congrArg (Option.map (·, (none : Option (Nat × Blk)))) hp
    | none =>
      have eo : ∀ z : Option Operand, (∀ y ∈ z.toArray, ev T y = ev T' y) → evOpt T z = evOpt T' z := by
        intro z hz; cases z with
        | none => rfl
        | some y => simp only [evOpt]; rw [hz y (by simp)]
      simp only
      rw [hT x (by simp), eo lo (fun y hy => hT y (by simp at hy ⊢; simp [hy])), eo hi (fun y hy => hT y (by simp at hy ⊢; simp [hy]))]
  case call c =>
    have hargs : ∀ x ∈ c.args.toList, ev T x = ev T' x := fun x hx => hT x (by have := mem_operands_call hx; simpa only [Op.operands] using this)
    unfold callA
    split
    · rename_i hcb
      split
      · rw [hcb] at hh
        split
        · rename_i s x t t' ha ht
          have e1 := hargs s (by rw [ha]; simp)
          have e2 := hargs x (by rw [ha]; simp)
          rw [← e1, ← e2]
          split
          · cases hs : ev T s with
            | none => rfl
            | some sv => cases hx : ev T x with
              | none => rfl
              | some xv =>
                simp only
                refine appendA_congr (fun L hL => hh L ?_) (fun L hL => hh L ?_)
                · rw [ha]; simp [readB, hs, hL]
                · rw [ha]; simp [readB, hx, hL]
          · rfl
        · rfl
      · split
        · rename_i x t ha ht
          rw [← hargs x (by rw [ha]; simp), hp]
        · rfl
      · rw [hp]
    · rfl
  case binOp op t x y yt =>
    rw [hT x (by simp), hT y (by simp), hp]
theorem appendS_congr {P : Program} {h h' : Heap} {t t' : TypeId} {s x : Value} {L : Nat} (h1 : ∀ L ∈ labOf (some s), h L = h' L) : appendS P h t t' s x L = appendS P h' t t' s x L := by
  unfold appendS
  split
  · rename_i e A n c str hu hu'
    rw [sliceCells_congr (size := 1) h1]
    cases A with
    | none => rfl
    | some a => simp only [h1 a.block (by simp [labOf])]
  · rfl
theorem srcCells_congr {P : Program} {h h' : Heap} {size k : Nat} {x : Value} (h1 : ∀ L ∈ labOf (some x), h L = h' L) : srcCells P h size k x = srcCells P h' size k x := by
  unfold srcCells
  split
  · rfl
  · rw [sliceCells_congr h1]
  · rfl
theorem copyX_congr {P : Program} {h h' : Heap} {t : TypeId} {d x : Value} (h1 : ∀ L ∈ labOf (some d), h L = h' L) (h2 : ∀ L ∈ labOf (some x), h L = h' L) : copyX P h t d x = copyX P h' t d x := by
  unfold copyX
  split
  · rename_i e A n c xl hu hxl
    rw [srcCells_congr h2]
    cases A with
    | none => rfl
    | some a => simp only [h1 a.block (by simp [labOf])]
  · rfl
theorem stringX_congr {P : Program} {h h' : Heap} {t : TypeId} {p n : Value} (h1 : ∀ L ∈ labOf (some p), h L = h' L) : stringX P h t p n = stringX P h' t p n := by
  unfold stringX
  split
  · rename_i A i
    cases A with
    | none => rfl
    | some a => simp only [h1 a.block (by simp [labOf])]
  · rfl
theorem convX_congr {P : Program} {h h' : Heap} {s d : TypeId} {x : Value} (h1 : ∀ L ∈ labOf (some x), h L = h' L) : convX P h s d x = convX P h' s d x := by
  unfold convX
  split
  · rw [sliceCells_congr h1]
  · rename_i a; rw [h1 a.block (by simp [labOf])]
  · rfl
theorem xop_congr {P : Program} {o : Oper} {T T' : TEnv} {h h' : Heap} {n : Nat} (hT : ∀ x ∈ o.op.operands, ev T x = ev T' x) (hh : ∀ L ∈ lreads o T, h L = h' L) : xop P o T h n = xop P o T' h' n := by
  unfold xop
  unfold lreads at hh
  cases hop : o.op <;> rw [hop] at hT hh <;> (try simp only [Op.operands] at hT) <;> (try simp only at hh) <;> (try simp only)
  case slice t x lo hi mx =>
    cases mx with
    | some _ => rfl
    | none =>
      have eo : ∀ z : Option Operand, (∀ y ∈ z.toArray, ev T y = ev T' y) → evOpt T z = evOpt T' z := by
        intro z hz; cases z with
        | none => rfl
        | some y => simp only [evOpt]; rw [hz y (by simp)]
      simp only
      rw [hT x (by simp), eo lo (fun y hy => hT y (by simp at hy ⊢; simp [hy])), eo hi (fun y hy => hT y (by simp at hy ⊢; simp [hy]))]
  case convert s d x =>
    rw [← hT x (by simp)]
    cases hx : ev T x with
    | none => rfl
    | some v => simp only; rw [convX_congr (by rw [← hx]; exact hh)]
  case makeSlice t l c => rw [hT l (by simp), hT c (by simp)]
  case binOp op t x y yt => rw [hT x (by simp), hT y (by simp)]
  case index t x i => rw [hT x (by simp), hT i (by simp)]
  case makeInterface t x => rw [hT x (by simp)]
  case call c =>
    have hargs : ∀ x ∈ c.args.toList, ev T x = ev T' x := fun x hx => hT x (by have := mem_operands_call hx; simpa only [Op.operands] using this)
    split
    · rename_i b hcb
      rw [hcb] at hh
      simp only at hh
      unfold callX
      split
      · rename_i s x t t' ha ht
        rw [← hargs s (by rw [ha]; simp), ← hargs x (by rw [ha]; simp)]
        cases hs : ev T s with
        | none => rfl
        | some sv => cases hx : ev T x with
          | none => rfl
          | some xv =>
            simp only
            exact appendS_congr (fun L hL => hh L (by rw [ha]; simp [readB, hs, hL]))
      · rename_i d x t t' ha ht
        rw [← hargs d (by rw [ha]; simp), ← hargs x (by rw [ha]; simp)]
        cases hs : ev T d with
        | none => rfl
        | some sv => cases hx : ev T x with
          | none => rfl
          | some xv =>
            simp only
            exact copyX_congr (fun L hL => hh L (by rw [ha]; simp [readB, hs, hL])) (fun L hL => hh L (by rw [ha]; simp [readB, hx, hL]))
      · rename_i x t ha ht
        rw [← hargs x (by rw [ha]; simp)]
      · rename_i p n' pt it ha ht
        rw [← hargs p (by rw [ha]; simp), ← hargs n' (by rw [ha]; simp)]
        cases hs : ev T p with
        | none => rfl
        | some sv => cases hx : ev T n' with
          | none => rfl
          | some xv =>
            simp only
            exact stringX_congr (fun L hL => hh L (by rw [ha]; simp [readB, hs, hL]))
      · rename_i x t ha ht
        rw [← hargs x (by rw [ha]; simp)]
      · rename_i x t ha ht
        rw [← hargs x (by rw [ha]; simp)]
      · rfl
    · rfl
theorem lop_congr {P : Program} {o : Oper} {T T' : TEnv} {h h' : Heap} {n : Nat} (hT : ∀ x ∈ o.op.operands, ev T x = ev T' x) (hh : ∀ L ∈ lreads o T, h L = h' L) : lop P o T h n = lop P o T' h' n := by
  unfold lop
  rw [xop_congr hT hh, lopA_congr hT hh]
theorem calleeA_congr {T T' : TEnv} {c : Call} (hT : ∀ x ∈ (Op.call c).operands, ev T x = ev T' x) : calleeA T c = calleeA T' c := by
  unfold calleeA
  split
  · rename_i f hf
    rw [hT f (by simp [Op.operands, Call.operands, hf]), evAll_congr (T := T) (T' := T') (fun x hx => hT x (mem_operands_call hx))]
  · rfl

/-! ### Lists of numbers -/
theorem sorted_eq : ∀ {l l' : List Nat}, l.Pairwise (· < ·) → l'.Pairwise (· < ·) → (∀ x, x ∈ l ↔ x ∈ l') → l = l'
  | [], [], _, _, _ => rfl
  | [], b :: _, _, _, h => by have := (h b).2 (by simp); simp at this
  | a :: _, [], _, _, h => by have := (h a).1 (by simp); simp at this
  | a :: l, b :: l', h1, h2, h => by
    obtain ⟨ha, hl⟩ := List.pairwise_cons.1 h1
    obtain ⟨hb, hl'⟩ := List.pairwise_cons.1 h2
    have hab : a = b := by
      have h3 := (h a).1 (by simp)
      have h4 := (h b).2 (by simp)
      rcases List.mem_cons.1 h3 with rfl | h3
      · rfl
      · rcases List.mem_cons.1 h4 with h4 | h4
        · exact h4.symm
        · have := hb a h3; have := ha b h4; omega
    subst hab
    congr 1
    refine sorted_eq hl hl' fun x => ?_
    constructor
    · intro hx
      rcases List.mem_cons.1 ((h x).1 (by simp [hx])) with rfl | h5
      · have := ha _ hx; omega
      · exact h5
    · intro hx
      rcases List.mem_cons.1 ((h x).2 (by simp [hx])) with rfl | h5
      · have := hb _ hx; omega
      · exact h5

/-- A stretch that may stand ahead in some order. -/
structure Pre (ops : Array Oper) (S : List Nat) : Prop where
  nodup : S.Nodup
  lt : ∀ j ∈ S, j < ops.size
  closed : ∀ j ∈ S, ∀ k, anc ops k j = true → k ∈ S
  ord : S.Pairwise fun j k => anc ops k j = false
theorem Pre.nil (ops : Array Oper) : Pre ops [] := ⟨by simp, by simp, by simp, by simp⟩
theorem ready_anc {ops : Array Oper} (hb : backOK ops = true) {S : List Nat} (hp : Pre ops S) {i : Nat} (hi : i < ops.size) (hr : Ready ops S i) : ∀ k, anc ops k i = true → k ∈ S := by
  intro k hk
  obtain ⟨e, he, hbi, hlt, h⟩ := anc_cases hb (Array.getElem?_eq_getElem hi) hk
  have hin := hr _ (Array.getElem?_eq_getElem hi) e he hbi
  rcases h with rfl | h
  · exact hin
  · exact hp.closed e.on hin k h
theorem Pre.snoc {ops : Array Oper} (hb : backOK ops = true) {S : List Nat} (hp : Pre ops S) {i : Nat} (hi : i < ops.size) (hni : i ∉ S) (hr : Ready ops S i) : Pre ops (S ++ [i]) := by
  refine ⟨?_, ?_, ?_, ?_⟩
  · rw [List.nodup_append]; refine ⟨hp.nodup, by simp, ?_⟩
    intro a ha b hb' e; simp at hb'; subst hb' e; exact hni ha
  · intro j hj; rcases List.mem_append.1 hj with h | h
    · exact hp.lt j h
    · simp at h; subst h; exact hi
  · intro j hj k hk; rcases List.mem_append.1 hj with h | h
    · exact List.mem_append.2 (.inl (hp.closed j h k hk))
    · simp at h; subst h; exact List.mem_append.2 (.inl (ready_anc hb hp hi hr k hk))
  · rw [List.pairwise_append]; refine ⟨hp.ord, by simp, ?_⟩
    intro a ha b hb'
    simp at hb'; subst hb'
    cases h : anc ops b a with
    | false => rfl
    | true => exact absurd (hp.closed a ha b h) hni
theorem pre_range {ops : Array Oper} (hb : backOK ops = true) {i : Nat} (hi : i ≤ ops.size) : Pre ops (List.range i) := by
  refine ⟨List.nodup_range, fun j hj => by simp at hj; omega, fun j hj k hk => ?_, ?_⟩
  · have := anc_lt hb hk; simp at hj ⊢; omega
  · rw [List.pairwise_iff_getElem]
    intro a b ha hb' hab
    simp at ha hb' ⊢
    cases h : anc ops b a with
    | false => rfl
    | true => have := anc_lt hb h; omega
/-- Of what is ordered, two stretches hold the same in the same order. -/
theorem filter_eq {ops : Array Oper} (hb : backOK ops = true) {S S' : List Nat} (hp : Pre ops S) (hp' : Pre ops S') {w : Nat → Bool} (hw : ∀ j k, j < ops.size → k < ops.size → j ≠ k → w j = true → w k = true → anc ops j k = true ∨ anc ops k j = true)
    (hm : ∀ j, w j = true → (j ∈ S ↔ j ∈ S')) : S.filter w = S'.filter w := by
  have sorted : ∀ {R : List Nat}, Pre ops R → (R.filter w).Pairwise (· < ·) := by
    intro R hR
    have h1 : (R.filter w).Pairwise (fun j k => anc ops k j = false ∧ j ≠ k) := by
      have h2 : R.Pairwise (fun j k => anc ops k j = false ∧ j ≠ k) := by
        have h3 : R.Pairwise (fun j k => j ≠ k) := hR.nodup
        exact List.Pairwise.and hR.ord h3
      exact h2.filter _
    refine h1.imp_of_mem ?_
    intro j k hj hk hjk
    rw [List.mem_filter] at hj hk
    rcases hw j k (hR.lt j hj.1) (hR.lt k hk.1) hjk.2 hj.2 hk.2 with h | h
    · exact anc_lt hb h
    · rw [hjk.1] at h; cases h
  refine sorted_eq (sorted hp) (sorted hp') fun x => ?_
  rw [List.mem_filter, List.mem_filter]
  constructor
  · intro h; exact ⟨(hm x h.2).1 h.1, h.2⟩
  · intro h; exact ⟨(hm x h.2).2 h.1, h.2⟩
end Go.Dm
