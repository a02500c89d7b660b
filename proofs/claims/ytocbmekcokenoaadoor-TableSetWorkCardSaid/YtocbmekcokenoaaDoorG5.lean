/- Walks, part M1. -/
import Derived.Test.YtocbmekcokenoaaDoorG4
import Derived.Test.YtocbmekcokenoaaDoorG2
import Derived.Test.YtocbmekcokenoaaDoorG3
set_option maxRecDepth 100000
set_option maxHeartbeats 4000000
set_option linter.unusedSimpArgs false
set_option linter.unusedVariables false
namespace Go.Proofs.YtocbmekcokenoaaDoor
open Go Go.Dm
attribute [local simp ↓] RunS_nil RunS_op RunS_guard RunT_nil RunT_op RunT_guard opS_call opD_call opS_move opD_move opS_assign opD_assign opS_pick opD_pick opS_nilCheck opD_nilCheck opS_fieldAddr opD_fieldAddr opS_indexAddr opD_indexAddr opS_load opD_load opS_store opD_store opS_alloc opD_alloc opS_box opD_box opS_build opD_build opS_buildSlice opD_buildSlice opS_field opD_field opS_extract opD_extract opS_makeFunc opD_makeFunc opS_slice opD_slice opS_binOp opD_binOp opS_unOp opD_unOp opS_convert opD_convert opS_index opD_index opS_len opD_len opS_append opD_append opS_max opD_max opS_min opD_min opS_makeSlice opD_makeSlice opS_makeInterface opD_makeInterface opS_copy opD_copy opS_data opD_data opS_string opD_string opS_cap opD_cap obind_some obind_none thenH_normal thenH_ret thenH_exit blockA_normal blockA_ret blockA_exit thenA_normal thenA_ret thenA_exit dstAt_mk dstL_zero dstL_succ
attribute [local simp] undef wantG_bool wantG_undef findO_some calleeS find putA ev closed3 closed2 closed1 closed0 pickA orE_some orE_none binF binXO binX binB strX unF convF convX convB mxF eqNilA fastBin fastUn fastConv intBin argEnv resultsA resultsL resultA notTuple allocs eff
  loadO storeO allocO boxO sliceO sliceX indexO indexXO indexX indexB lenO lenS capX ifaceO indexAddrA loadA storeA newA isAggT nilCheckA lenA evAll evParts aadd gen upd_at upd_upd Value.cells mxV Pairs apart readsS readB labOf putAt fieldA partA extractA makeFuncA evOpt boundOf sliceA isV0 Nat.add_assoc
attribute [local simp] bu23_z bu23_0_1_2 bu27_z bu27_0_1 bu27_0 bu33_z bu33_0 bu48_0_1 bu61_0_1 bs25_0_z bs25_1_0 bs31_0_z bs31_1_0 bs74_1_0 bs82_3_0_1_2
attribute [local simp ↓] eql23 neq23 eql48 neq48 eql61 neq61 eql24 neq24
attribute [local simp] fa23_0 fa23_1 fa23_2 fa48_0 fa48_1 fa61_0 fa61_1 fa33_0 fa33_1 fa27_0 fa27_1
attribute [local simp] c2 b2 z2 c3 b3 z3 c4 b4 z4 c5 b5 z5 c9 b9 z9 c23 b23 z23 h23 g23 c24 b24 z24 c25 b25 z25 c27 b27 z27 h27 g27 c29 b29 z29 c31 b31 z31 c33 b33 z33 h33 g33 c48 b48 z48 h48 g48 c50 b50 z50 c58 b58 z58 c61 b61 z61 h61 g61 Tryd.underlying2 Tryd.underlying3 Tryd.underlying4 Tryd.underlying5 Tryd.underlying9 Tryd.underlying23 Tryd.underlying24 Tryd.underlying25 Tryd.underlying27 Tryd.underlying29 Tryd.underlying31 Tryd.underlying33 Tryd.underlying48 Tryd.underlying50 Tryd.underlying58 Tryd.underlying61
/-! ### What the tables say, in plain words -/
def i64 (n : Int) : Prop := -9223372036854775808 ≤ n ∧ n ≤ 9223372036854775807
structure P3 where
  x : Int
  y : Int
  z : Int
deriving DecidableEq
instance : Inhabited P3 := ⟨⟨0, 0, 0⟩⟩
abbrev P3.v (p : P3) : Value := .agg #[.int .i64 p.x, .int .i64 p.y, .int .i64 p.z]
abbrev P3.cells (p : P3) : List Value := [.int .i64 p.x, .int .i64 p.y, .int .i64 p.z]
def P3.Fit (p : P3) : Prop := i64 p.x ∧ i64 p.y ∧ i64 p.z
def far1 (n : Int) : Bool := decide (10000000 < n) || decide (n < -10000000)
def P3.far (p : P3) : Bool := far1 p.x || far1 p.y || far1 p.z
structure Ln where
  n : Int
  l : Int
deriving DecidableEq
instance : Inhabited Ln := ⟨⟨0, 0⟩⟩
abbrev Ln.v (e : Ln) : Value := .agg #[.int .i64 e.n, .int .i64 e.l]
abbrev Ln.cells (e : Ln) : List Value := [.int .i64 e.n, .int .i64 e.l]
def Ln.Fit (e : Ln) : Prop := i64 e.n ∧ i64 e.l
def Ln.ok (e : Ln) : Bool := decide (1 ≤ e.n) && decide (e.n ≤ 999) && decide (0 ≤ e.l) && decide (e.l ≤ 10000000)
structure Tb where
  p0 : P3
  p1 : P3
  p2 : P3
  p3 : P3
  p4 : P3
  p5 : P3
  ls : List Ln
abbrev Tb.work (T : Tb) : List P3 := [T.p0, T.p1, T.p2, T.p3, T.p4, T.p5]
def posCells (l : List P3) : List Value := l.flatMap P3.cells
def lnCells (l : List Ln) : List Value := l.flatMap Ln.cells
abbrev Tb.wcells (T : Tb) : List Value := [.int .i64 T.p0.x, .int .i64 T.p0.y, .int .i64 T.p0.z, .int .i64 T.p1.x, .int .i64 T.p1.y, .int .i64 T.p1.z, .int .i64 T.p2.x, .int .i64 T.p2.y, .int .i64 T.p2.z,
  .int .i64 T.p3.x, .int .i64 T.p3.y, .int .i64 T.p3.z, .int .i64 T.p4.x, .int .i64 T.p4.y, .int .i64 T.p4.z, .int .i64 T.p5.x, .int .i64 T.p5.y, .int .i64 T.p5.z]
/-- A table as a value; s: its slice. -/
abbrev Tb.v (T : Tb) (s : Value) : Value := .agg #[.int .i64 T.p0.x, .int .i64 T.p0.y, .int .i64 T.p0.z, .int .i64 T.p1.x, .int .i64 T.p1.y, .int .i64 T.p1.z, .int .i64 T.p2.x, .int .i64 T.p2.y, .int .i64 T.p2.z,
  .int .i64 T.p3.x, .int .i64 T.p3.y, .int .i64 T.p3.z, .int .i64 T.p4.x, .int .i64 T.p4.y, .int .i64 T.p4.z, .int .i64 T.p5.x, .int .i64 T.p5.y, .int .i64 T.p5.z, s]
structure Tb.Fit (T : Tb) : Prop where
  work : ∀ p ∈ T.work, p.Fit
  ls : ∀ e ∈ T.ls, e.Fit
  few : T.ls.length ≤ 1000000000000
theorem posCells_length (l : List P3) : (posCells l).length = l.length * 3 := by
  induction l with
  | nil => rfl
  | cons m l ih => simp only [posCells, List.flatMap_cons, List.length_append] at *; rw [ih]; simp [P3.cells]; omega
theorem posCells_at : ∀ (l : List P3) (i : Nat) (hi : i < l.length), ((posCells l).drop (i * 3)).take 3 = l[i].cells
  | m :: l, 0, _ => by simp [posCells, P3.cells]
  | m :: l, i + 1, hi => by
    have := posCells_at l i (by simpa using hi)
    simp only [posCells, List.flatMap_cons] at *
    rw [List.drop_append, List.drop_eq_nil_of_le (by simp [P3.cells]; omega)]
    rw [show (i + 1) * 3 - m.cells.length = i * 3 by simp [P3.cells]; omega]
    simpa using this
theorem lnCells_length (l : List Ln) : (lnCells l).length = l.length * 2 := by
  induction l with
  | nil => rfl
  | cons m l ih => simp only [lnCells, List.flatMap_cons, List.length_append] at *; rw [ih]; simp [Ln.cells]; omega
theorem lnCells_at : ∀ (l : List Ln) (i : Nat) (hi : i < l.length), ((lnCells l).drop (i * 2)).take 2 = l[i].cells
  | m :: l, 0, _ => by simp [lnCells, Ln.cells]
  | m :: l, i + 1, hi => by
    have := lnCells_at l i (by simpa using hi)
    simp only [lnCells, List.flatMap_cons] at *
    rw [List.drop_append, List.drop_eq_nil_of_le (by simp [Ln.cells]; omega)]
    rw [show (i + 1) * 2 - m.cells.length = i * 2 by simp [Ln.cells]; omega]
    simpa using this
theorem lnCells_append (a b : List Ln) : lnCells (a ++ b) = lnCells a ++ lnCells b := by simp [lnCells]
theorem lnCells_closed (l : List Ln) : (lnCells l).all closed1 = true := by
  rw [List.all_eq_true]; intro v hv
  simp only [lnCells, List.mem_flatMap, Ln.cells] at hv
  obtain ⟨m, _, hv⟩ := hv
  simp only [List.mem_cons, List.not_mem_nil, or_false] at hv
  rcases hv with rfl | rfl <;> rfl
/-- Whether one of the places from i on, d of them, has a mark. -/
def anyFrom (f : Int → Bool) : Nat → Int → Bool
  | 0, _ => false
  | d + 1, i => f i || anyFrom f d (i + 1)
theorem anyFrom_step {f : Int → Bool} {i m : Int} (h : i < m) : anyFrom f (m - i).toNat i = (f i || anyFrom f (m - (i + 1)).toNat (i + 1)) := by
  rw [show (m - i).toNat = (m - (i + 1)).toNat + 1 by omega]; rfl
def badL (ls : List Ln) (i : Int) : Bool := !(ls[i.toNat]!).ok || (decide (0 < i) && decide ((ls[(i - 1).toNat]!).n ≥ (ls[i.toNat]!).n))
def Tb.bad (T : Tb) : Bool := T.work.any P3.far || anyFrom (badL T.ls) T.ls.length 0
def Tb.code (T : Tb) : Int := if T.bad then 1 else 0
/-! ### Slices that can be read -/
def RD (h : Heap) (k : Nat) (s : Value) (cells : List Value) (m : Nat) : Prop :=
  cells.length = m * k ∧ ∃ A c, s = .slice A m c ∧ (A = none → m = 0 ∧ c = 0) ∧ (0 < m → ∃ a b, A = some a ∧ h a.block = some b ∧ b.gen = gen a ∧ a.off + m * k ≤ b.cells.length ∧ (b.cells.drop a.off).take (m * k) = cells)
theorem RD.len {h : Heap} {k m : Nat} {s : Value} {cells : List Value} (hr : RD h k s cells m) : ∃ A c, s = .slice A m c := by
  obtain ⟨_, A, c, h2, _⟩ := hr; exact ⟨A, c, h2⟩
theorem RD.at {h : Heap} {k m : Nat} {s : Value} {cells : List Value} (hr : RD h k s cells m) {i : Nat} (hi : i < m) :
    ∃ a c b, s = .slice (some a) m c ∧ h a.block = some b ∧ b.gen = gen a ∧ a.off + i * k + k ≤ b.cells.length ∧ (b.cells.drop (a.off + i * k)).take k = (cells.drop (i * k)).take k := by
  obtain ⟨h1, A, c, h2, h3, h4⟩ := hr
  obtain ⟨a, b, rfl, x3, x4, x5, x6⟩ := h4 (by omega)
  have hle : i * k + k ≤ m * k := by
    have := Nat.mul_le_mul_right k (show i + 1 ≤ m by omega)
    rw [Nat.add_mul] at this; omega
  refine ⟨a, c, b, h2, x3, x4, by omega, ?_⟩
  rw [← x6, List.drop_take, List.take_take, List.drop_drop, Nat.min_eq_left (by omega)]
theorem RD.mono {h h' : Heap} {k m : Nat} {s : Value} {cells : List Value} (hr : RD h k s cells m) (hh : ∀ L b, h L = some b → h' L = some b) : RD h' k s cells m := by
  obtain ⟨h1, A, c, h2, h3, h4⟩ := hr
  refine ⟨h1, A, c, h2, h3, fun hm => ?_⟩
  obtain ⟨a, b, x1, x2, x3⟩ := h4 hm
  exact ⟨a, b, x1, hh _ _ x2, x3⟩
theorem RD.upd {h : Heap} {k m n : Nat} {s : Value} {cells : List Value} (hr : RD h k s cells m) (hlt : ∀ L b, h L = some b → L < n) {L : Nat} (hL : n ≤ L) (b : Blk) : RD (upd h L b) k s cells m :=
  hr.mono fun L' b' h' => by rw [upd_at, if_neg (by have := hlt _ _ h'; omega)]; exact h'
/-- The labels that it reads. -/
theorem RD.agree {h : Heap} {k m : Nat} {s : Value} {cells : List Value} (hr : RD h k s cells m) : ∃ F : List Nat, (∀ L ∈ F, (h L).isSome = true) ∧ (∀ L ∈ F, ∃ a n c, s = .slice (some a) n c ∧ L = a.block) ∧ ∀ h2 : Heap, (∀ L ∈ F, h2 L = h L) → RD h2 k s cells m := by
  obtain ⟨h1, A, c, h2, h3, h4⟩ := hr
  by_cases hm : 0 < m
  · obtain ⟨a, b, rfl, x2, x3⟩ := h4 hm
    exact ⟨[a.block], by simp [x2], by simp [h2], fun h2' hh => ⟨h1, _, c, h2, h3, fun _ => ⟨a, b, rfl, by rw [hh _ (by simp)]; exact x2, x3⟩⟩⟩
  · exact ⟨[], by simp, by simp, fun h2' hh => ⟨h1, A, c, h2, h3, fun h => absurd h hm⟩⟩
theorem RD.nil {h : Heap} {k : Nat} : RD h k (.slice none 0 0) [] 0 := ⟨by simp, none, 0, rfl, fun _ => ⟨rfl, rfl⟩, fun h => absurd h (by omega)⟩
theorem gs_rd {h : Heap} {e : TypeId} {k m lo hi : Nat} {s : Value} {cells : List Value} (hg : GS h e k s cells m lo hi) : RD h k s cells m := by
  rcases hg with ⟨rfl, rfl, rfl⟩ | ⟨h1, L, sp, rfl, h3, h4, h5, h6⟩
  · exact .nil
  · exact ⟨h4, _, _, rfl, (fun h => nomatch h), fun _ => ⟨_, _, rfl, h3, rfl, by simp only; omega, by simp [← h4]⟩⟩
/-- A contract of a call that answers by what it reads. -/
def Reads (g : FuncId) (args : List Value) (h : Heap) (r : Value) : Prop := ∃ F : List Nat, (∀ L ∈ F, (h L).isSome = true) ∧ ∀ h2 n2, (∀ L ∈ F, h2 L = h L) → Dm.Spec Tryd.prog g args h2 n2 fun r' h' n' => r' = r ∧ h' = h2 ∧ n' = n2
theorem Reads.here {g : FuncId} {args : List Value} {h : Heap} {r : Value} (hr : Reads g args h r) (n : Nat) : Dm.Spec Tryd.prog g args h n fun r' h' n' => r' = r ∧ h' = h ∧ n' = n := by
  obtain ⟨F, _, hs⟩ := hr; exact hs h n fun _ _ => rfl
/-- One entry of a slice of entries (of either package). -/
structure AtLn (ty el : TypeId) (s : Value) (i : Int) (m : Ln) (B o : Nat) (sp : Option Nat) (b : Blk) : Prop where
  idx : indexAddrA Tryd.prog ty (some s) (some (.int .i64 i)) = some (.pointer (some ⟨B, o, sp⟩))
  l : ∀ h' : Heap, h' B = some b → loadA Tryd.prog h' el ⟨B, o, sp⟩ = some m.v
  ln : ∀ h' : Heap, h' B = some b → loadA Tryd.prog h' 2 ⟨B, o, sp⟩ = some (.int .i64 m.n)
  ll : ∀ h' : Heap, h' B = some b → loadA Tryd.prog h' 2 ⟨B, o + 1, sp⟩ = some (.int .i64 m.l)
theorem RD.ln {h : Heap} {ty el : TypeId} {s : Value} {l : List Ln} (hty : Tryd.prog.underlying ty = some (.slice el)) (hel : isAggT Tryd.prog el = true) (hu : ∃ d, Tryd.prog.underlying el = some d) (hc : Tryd.prog.cellsOf el = 2) (hr : RD h 2 s (lnCells l) l.length) {i : Int} (h0 : 0 ≤ i) (h1 : i < l.length) :
    ∃ B o sp b, h B = some b ∧ AtLn ty el s i (l[i.toNat]!) B o sp b := by
  obtain ⟨j, rfl⟩ : ∃ j : Nat, i = j := ⟨i.toNat, by omega⟩
  have hj : j < l.length := by omega
  have eg : l[(j : Int).toNat]! = l[j] := by simp [hj]
  rw [eg]
  obtain ⟨⟨B, o, sp⟩, c, b, rfl, hB, hg, hlen, hcells⟩ := hr.at hj
  rw [lnCells_at l j hj] at hcells
  simp only at hB hg hlen hcells
  generalize l[j] = m at hcells ⊢
  have cell : ∀ q v, m.cells[q]? = some v → b.cells[o + j * 2 + q]? = some v := by
    intro q v hq
    have e1 := congrArg (·[q]?) hcells
    simp only [List.getElem?_take, List.getElem?_drop] at e1
    rw [hq] at e1
    have : q < 2 := by
      have := (List.getElem?_eq_some_iff.1 hq).1; simpa [Ln.cells] using this
    rw [if_pos this] at e1; exact e1
  obtain ⟨d, hd⟩ := hu
  refine ⟨B, o + j * 2, sp, b, hB, ⟨?_, ?_, ?_, ?_⟩⟩
  · simp only [indexAddrA, hty, hc, Int.toNat_natCast, aadd]
    rw [if_pos ⟨by omega, by omega, by omega⟩]
  · intro h' hh
    unfold loadA
    simp only [hd, hh, hg, gen, hel, hc, if_true]
    rw [if_pos ⟨by omega, by omega⟩, hcells]
  · intro h' hh
    unfold loadA
    simp only [Tryd.underlying2, hh, hg, gen, isAggT, if_true, Bool.false_eq_true, if_false]
    exact cell 0 _ rfl
  · intro h' hh
    unfold loadA
    simp only [Tryd.underlying2, hh, hg, gen, isAggT, if_true, Bool.false_eq_true, if_false]
    exact cell 1 _ rfl
theorem RD.tln {h : Heap} {s : Value} {l : List Ln} (hr : RD h 2 s (lnCells l) l.length) {i : Int} (h0 : 0 ≤ i) (h1 : i < l.length) : ∃ B o sp b, h B = some b ∧ AtLn 31 48 s i (l[i.toNat]!) B o sp b :=
  hr.ln Tryd.underlying31 (by simp [isAggT, Tryd.underlying48]) ⟨_, Tryd.underlying48⟩ c48 h0 h1
theorem RD.rln {h : Heap} {s : Value} {l : List Ln} (hr : RD h 2 s (lnCells l) l.length) {i : Int} (h0 : 0 ≤ i) (h1 : i < l.length) : ∃ B o sp b, h B = some b ∧ AtLn 25 61 s i (l[i.toNat]!) B o sp b :=
  hr.ln Tryd.underlying25 (by simp [isAggT, Tryd.underlying61]) ⟨_, Tryd.underlying61⟩ c61 h0 h1
/-- One position. -/
structure AtPos (s : Value) (i : Int) (p : P3) (B o : Nat) (sp : Option Nat) (b : Blk) : Prop where
  idx : indexAddrA Tryd.prog 58 (some s) (some (.int .i64 i)) = some (.pointer (some ⟨B, o, sp⟩))
  l : ∀ h' : Heap, h' B = some b → loadA Tryd.prog h' 23 ⟨B, o, sp⟩ = some p.v
theorem RD.pos {h : Heap} {s : Value} {l : List P3} (hr : RD h 3 s (posCells l) l.length) {i : Int} (h0 : 0 ≤ i) (h1 : i < l.length) :
    ∃ B o sp b, h B = some b ∧ AtPos s i (l[i.toNat]!) B o sp b := by
  obtain ⟨j, rfl⟩ : ∃ j : Nat, i = j := ⟨i.toNat, by omega⟩
  have hj : j < l.length := by omega
  have eg : l[(j : Int).toNat]! = l[j] := by simp [hj]
  rw [eg]
  obtain ⟨⟨B, o, sp⟩, c, b, rfl, hB, hg, hlen, hcells⟩ := hr.at hj
  rw [posCells_at l j hj] at hcells
  simp only at hB hg hlen hcells
  refine ⟨B, o + j * 3, sp, b, hB, ⟨?_, ?_⟩⟩
  · simp only [indexAddrA, Tryd.underlying58, c23, Int.toNat_natCast, aadd]
    rw [if_pos ⟨by omega, by omega, by omega⟩]
  · intro h' hh
    unfold loadA
    simp only [Tryd.underlying23, hh, hg, gen, isAggT, c23, if_true]
    rw [if_pos ⟨by omega, by omega⟩, hcells]
theorem pureAt {g : FuncId} {fn : Func} {c : Code} (hf : Tryd.prog.funcs[g]? = some fn) (hb : fn.body = some c) (hnm : (fn.name == "runtime.NumGoroutine") = false) {args : List Value} {N : Nat} {rs : List ResultVar} (hN : fn.ntmps = N) (hrs : fn.results.toList = rs) (hlen : args.length ≤ N) {r : Value} {h : Heap} {n : Nat}
    (hsat : Sat Tryd.prog N c (argEnv 0 args) h n (PureQ Tryd.prog rs r h n)) : Dm.Spec Tryd.prog g args h n fun r' h' n' => r' = r ∧ h' = h ∧ n' = n := by
  subst hN; subst hrs
  exact Spec.pure (Q := fun r' => r' = r) (Spec.of_body hf hb hnm hlen hsat)
def firstF (f : Int → Bool) : Nat → Int → Int
  | 0, _ => -1
  | d + 1, i => if f i then i else firstF f d (i + 1)
theorem firstF_step {f : Int → Bool} {i m : Int} (h : i < m) : firstF f (m - i).toNat i = if f i then i else firstF f (m - (i + 1)).toNat (i + 1) := by
  rw [show (m - i).toNat = (m - (i + 1)).toNat + 1 by omega]; rfl
theorem firstF_any {f : Int → Bool} : ∀ (d : Nat) (i : Int), 0 ≤ i → decide (0 ≤ firstF f d i) = anyFrom f d i
  | 0, i, _ => rfl
  | d + 1, i, h => by
    simp only [firstF, anyFrom]
    by_cases hf : f i = true
    · simpa [hf] using h
    · simpa [hf] using firstF_any d (i + 1) (by omega)
def farAt (ps : List P3) (i : Int) : Bool := (ps[i.toNat]!).far

end Go.Proofs.YtocbmekcokenoaaDoor
/- Walks, part B1. -/
set_option maxRecDepth 100000
set_option maxHeartbeats 4000000
set_option linter.unusedSimpArgs false
set_option linter.unusedVariables false
namespace Go.Proofs.YtocbmekcokenoaaDoor
open Go Go.Dm
attribute [local simp ↓] RunS_nil RunS_op RunS_guard RunT_nil RunT_op RunT_guard opS_call opD_call opS_move opD_move opS_assign opD_assign opS_pick opD_pick opS_nilCheck opD_nilCheck opS_fieldAddr opD_fieldAddr opS_indexAddr opD_indexAddr opS_load opD_load opS_store opD_store opS_alloc opD_alloc opS_box opD_box opS_build opD_build opS_buildSlice opD_buildSlice opS_field opD_field opS_extract opD_extract opS_makeFunc opD_makeFunc opS_slice opD_slice opS_binOp opD_binOp opS_unOp opD_unOp opS_convert opD_convert opS_index opD_index opS_len opD_len opS_append opD_append opS_max opD_max opS_min opD_min opS_makeSlice opD_makeSlice opS_makeInterface opD_makeInterface opS_copy opD_copy opS_data opD_data opS_string opD_string opS_cap opD_cap obind_some obind_none thenH_normal thenH_ret thenH_exit blockA_normal blockA_ret blockA_exit thenA_normal thenA_ret thenA_exit dstAt_mk dstL_zero dstL_succ
attribute [local simp] undef wantG_bool wantG_undef findO_some calleeS find putA ev closed3 closed2 closed1 closed0 pickA orE_some orE_none binF binXO binX binB strX unF convF convX convB mxF eqNilA fastBin fastUn fastConv intBin argEnv resultsA resultsL resultA notTuple allocs eff
  loadO storeO allocO boxO sliceO sliceX indexO indexXO indexX indexB lenO lenS capX ifaceO indexAddrA loadA storeA newA isAggT nilCheckA lenA evAll evParts aadd gen upd_at upd_upd Value.cells mxV Pairs apart readsS readB labOf putAt fieldA partA extractA makeFuncA evOpt boundOf sliceA isV0 Nat.add_assoc
attribute [local simp] bu23_z bu23_0_1_2 bu27_z bu27_0_1 bu27_0 bu33_z bu33_0 bu48_0_1 bu61_0_1 bs25_0_z bs25_1_0 bs31_0_z bs31_1_0 bs74_1_0 bs82_3_0_1_2
attribute [local simp ↓] eql23 neq23 eql48 neq48 eql61 neq61 eql24 neq24
attribute [local simp] fa23_0 fa23_1 fa23_2 fa48_0 fa48_1 fa61_0 fa61_1 fa33_0 fa33_1 fa27_0 fa27_1
attribute [local simp] c2 b2 z2 c3 b3 z3 c4 b4 z4 c5 b5 z5 c9 b9 z9 c23 b23 z23 h23 g23 c24 b24 z24 c25 b25 z25 c27 b27 z27 h27 g27 c29 b29 z29 c31 b31 z31 c33 b33 z33 h33 g33 c48 b48 z48 h48 g48 c50 b50 z50 c58 b58 z58 c61 b61 z61 h61 g61 Tryd.underlying2 Tryd.underlying3 Tryd.underlying4 Tryd.underlying5 Tryd.underlying9 Tryd.underlying23 Tryd.underlying24 Tryd.underlying25 Tryd.underlying27 Tryd.underlying29 Tryd.underlying31 Tryd.underlying33 Tryd.underlying48 Tryd.underlying50 Tryd.underlying58 Tryd.underlying61
theorem far_iff (p : P3) : p.far = true ↔ (10000000 < p.x ∨ p.x < -10000000 ∨ 10000000 < p.y ∨ p.y < -10000000 ∨ 10000000 < p.z ∨ p.z < -10000000) := by
  simp [P3.far, far1, or_assoc]
theorem mx3 (x y z : Int) : ∃ M, (if z > (if x < y then y else x) then z else if x < y then y else x) = M ∧ x ≤ M ∧ y ≤ M ∧ z ≤ M ∧ (M = x ∨ M = y ∨ M = z) := by
  refine ⟨_, rfl, ?_⟩
  repeat' split
  all_goals omega
theorem mn3 (x y z : Int) : ∃ M, (if z < (if y < x then y else x) then z else if y < x then y else x) = M ∧ M ≤ x ∧ M ≤ y ∧ M ≤ z ∧ (M = x ∨ M = y ∨ M = z) := by
  refine ⟨_, rfl, ?_⟩
  repeat' split
  all_goals omega
theorem w_tfar (p : P3) : Pure Tryd.prog 25 [p.v] (.bool p.far) := by
  refine Pure.of_body Tryd.func25 rfl (by kernel_rfl) Tryd.ntmps25 (by rw [Tryd.results25]) (Nat.le_of_ble_eq_true rfl) fun h n => ?_
  obtain ⟨M, hM, m1, m2, m3, m4⟩ := mx3 p.x p.y p.z
  obtain ⟨K, hK, k1, k2, k3, k4⟩ := mn3 p.x p.y p.z
  refine Sat.sq ?_
  refine Sat.reg (by kernel_rfl) ?_
  simp -dsimp
  refine Sat.sq ?_
  refine Sat.reg (by kernel_rfl) ?_
  simp -dsimp
  rw [hM]
  refine Sat.sq ?_
  refine Sat.reg (by kernel_rfl) ?_
  simp -dsimp
  rw [hK]
  have hf : p.far = (decide (10000000 < M) || decide (K < -10000000)) := by
    rw [Bool.eq_iff_iff, far_iff]; simp; omega
  refine Sat.sq ?_
  refine Sat.reg (by kernel_rfl) ?_
  by_cases c1 : 10000000 < M
  · simp -dsimp [c1]
    exact Sat.ret (PureQ.ret rfl (keep_upd (by omega) keep_refl) (by simp [hf, c1]))
  · simp -dsimp [c1]
    exact Sat.ret (PureQ.ret rfl (keep_upd (by omega) keep_refl) (by simp [hf, c1]))
theorem w_tentry (e : Ln) : Pure Tryd.prog 26 [e.v] (.bool e.ok) := by
  refine Pure.of_body Tryd.func26 rfl (by kernel_rfl) Tryd.ntmps26 (by rw [Tryd.results26]) (Nat.le_of_ble_eq_true rfl) fun h n => ?_
  refine Sat.sq ?_
  refine Sat.reg (by kernel_rfl) ?_
  simp -dsimp
  refine Sat.sq ?_
  refine Sat.reg (by kernel_rfl) ?_
  have fin : ∀ (b : Bool), e.ok = b → PureQ Tryd.prog [.tmp 2] (.bool e.ok) h n .ret [(2, .bool b)] (upd h n ⟨[.int .i64 e.n, .int .i64 e.l], 48, 0, true⟩) (n + 1) := fun b hb => PureQ.ret rfl (keep_upd (by omega) keep_refl) (by simp [hb])
  by_cases c1 : 1 ≤ e.n
  · by_cases c2 : e.n ≤ 999
    · by_cases c3 : 0 ≤ e.l
      · by_cases c4 : e.l ≤ 10000000
        all_goals
          simp -dsimp [c1, c2, c3, c4]
          exact Sat.ret (PureQ.ret rfl (keep_upd (by omega) keep_refl) (by simp [Ln.ok, c1, c2, c3, c4]))
      · simp -dsimp [c1, c2, c3]
        exact Sat.ret (PureQ.ret rfl (keep_upd (by omega) keep_refl) (by simp [Ln.ok, c1, c2, c3]))
    · simp -dsimp [c1, c2]
      exact Sat.ret (PureQ.ret rfl (keep_upd (by omega) keep_refl) (by simp [Ln.ok, c1, c2]))
  · simp -dsimp [c1]
    exact Sat.ret (PureQ.ret rfl (keep_upd (by omega) keep_refl) (by simp [Ln.ok, c1]))
theorem w_rentry (e : Ln) : Pure Tryd.prog 28 [e.v] (.bool e.ok) := by
  refine Pure.of_body Tryd.func28 rfl (by kernel_rfl) Tryd.ntmps28 (by rw [Tryd.results28]) (Nat.le_of_ble_eq_true rfl) fun h n => ?_
  refine Sat.sq ?_
  refine Sat.reg (by kernel_rfl) ?_
  simp -dsimp
  refine Sat.sq ?_
  refine Sat.reg (by kernel_rfl) ?_
  by_cases c1 : 1 ≤ e.n
  · by_cases c2 : e.n ≤ 999
    · by_cases c3 : 0 ≤ e.l
      · by_cases c4 : e.l ≤ 10000000
        all_goals
          simp -dsimp [c1, c2, c3, c4]
          exact Sat.ret (PureQ.ret rfl (keep_upd (by omega) keep_refl) (by simp [Ln.ok, c1, c2, c3, c4]))
      · simp -dsimp [c1, c2, c3]
        exact Sat.ret (PureQ.ret rfl (keep_upd (by omega) keep_refl) (by simp [Ln.ok, c1, c2, c3]))
    · simp -dsimp [c1, c2]
      exact Sat.ret (PureQ.ret rfl (keep_upd (by omega) keep_refl) (by simp [Ln.ok, c1, c2]))
  · simp -dsimp [c1]
    exact Sat.ret (PureQ.ret rfl (keep_upd (by omega) keep_refl) (by simp [Ln.ok, c1]))
theorem w_rfar (x : Int) : Pure Tryd.prog 44 [.int .i64 x] (.bool (far1 x)) := by
  refine Pure.of_body Tryd.func44 rfl (by kernel_rfl) Tryd.ntmps44 (by rw [Tryd.results44]) (Nat.le_of_ble_eq_true rfl) fun h n => ?_
  refine Sat.sq ?_
  refine Sat.reg (by kernel_rfl) ?_
  simp -dsimp
  refine Sat.sq ?_
  refine Sat.reg (by kernel_rfl) ?_
  by_cases c1 : 10000000 < x
  · simp -dsimp [c1]
    exact Sat.ret (PureQ.ret rfl keep_refl (by simp [far1, c1]))
  · simp -dsimp [c1]
    exact Sat.ret (PureQ.ret rfl keep_refl (by simp [far1, c1]))
theorem w_rout (p : P3) : Pure Tryd.prog 27 [p.v] (.bool p.far) := by
  refine Pure.of_body Tryd.func27 rfl (by kernel_rfl) Tryd.ntmps27 (by rw [Tryd.results27]) (Nat.le_of_ble_eq_true rfl) fun h n => ?_
  refine Sat.sq ?_
  refine Sat.reg (by kernel_rfl) ?_
  simp -dsimp
  refine Sat.sq ?_
  refine Sat.reg (by kernel_rfl) ?_
  simp -dsimp
  refine (w_rfar ..).useH ?_
  cases hx : far1 p.x
  · simp -dsimp
    refine (w_rfar ..).useH ?_
    cases hy : far1 p.y
    · simp -dsimp
      refine (w_rfar ..).useH ?_
      simp -dsimp
      exact Sat.ret (PureQ.ret rfl (keep_upd (by omega) keep_refl) (by simp [P3.far, hx, hy]))
    · simp -dsimp
      exact Sat.ret (PureQ.ret rfl (keep_upd (by omega) keep_refl) (by simp [P3.far, hx, hy]))
  · simp -dsimp
    exact Sat.ret (PureQ.ret rfl (keep_upd (by omega) keep_refl) (by simp [P3.far, hx]))
/-- The number of a work offset. -/
def slotM (c : Int) : Option Nat := if c.tmod 1000 = 0 ∧ 54000 ≤ c ∧ c ≤ 59000 then some (c.tdiv 1000 - 54).toNat else none
theorem slot_div {c : Int} (h0 : c.tmod 1000 = 0) (h1 : 54000 ≤ c) (h2 : c ≤ 59000) : IntKind.i64.wrap (c.tdiv 1000) = c.tdiv 1000 ∧ IntKind.i64.wrap (c.tdiv 1000 - 54) = ((c.tdiv 1000 - 54).toNat : Int) ∧ (c.tdiv 1000 - 54).toNat < 6 := by
  have e1 : c.tdiv 1000 = c / 1000 := Int.tdiv_eq_ediv_of_nonneg (by omega)
  rw [e1]
  refine ⟨wrap_in (by omega) (by omega), ?_, by omega⟩
  rw [wrap_in (by omega) (by omega)]; omega
theorem w_tslot (c : Int) : Pure Tryd.prog 29 [.int .i64 c] (match slotM c with | some i => .tuple #[.int .i64 i, .int .i64 0] | none => .tuple #[.int .i64 0, .int .i64 4]) := by
  refine Pure.of_body Tryd.func29 rfl (by kernel_rfl) Tryd.ntmps29 (by rw [Tryd.results29]) (Nat.le_of_ble_eq_true rfl) fun h n => ?_
  refine Sat.sq ?_
  refine Sat.reg (by kernel_rfl) ?_
  simp -dsimp
  refine Sat.sq ?_
  refine Sat.join (fun T h' n' => find T 14 = some (.bool (slotM c).isNone) ∧ find T 0 = some (.int .i64 c) ∧ h' = h ∧ n' = n) ?_ ?_
  · refine Sat.reg (by kernel_rfl) ?_
    by_cases c1 : c.tmod 1000 = 0
    · by_cases c2 : c < 54000
      · have e : slotM c = none := by simp [slotM]; omega
        simp -dsimp [c1, c2, e]
      · by_cases c3 : 59000 < c
        · have e : slotM c = none := by simp [slotM]; omega
          simp -dsimp [c1, c2, c3, e]
        · have e : (slotM c).isNone = false := by simp [slotM, c1]; omega
          simp -dsimp [c1, c2, c3, e]
    · have e : slotM c = none := by simp [slotM, c1]
      simp -dsimp [c1, e]
  rintro T h' n' ⟨t14, t0, rfl, rfl⟩
  cases hs : slotM c with
  | none =>
    rw [hs] at t14
    refine Sat.cond (t := true) t14 ?_
    refine Sat.sq ?_
    refine Sat.reg (by kernel_rfl) ?_
    simp -dsimp
    exact Sat.ret (PureQ.ret rfl keep_refl rfl)
  | some i =>
    rw [hs] at t14
    simp only [slotM] at hs
    split at hs
    rotate_left
    · cases hs
    rename_i hc
    obtain ⟨e1, e2, e3⟩ := slot_div hc.1 hc.2.1 hc.2.2
    simp only [Option.some.injEq] at hs
    rw [hs] at e2
    refine Sat.cond (t := false) t14 ?_
    refine Sat.skip ?_
    simp -dsimp
    refine Sat.sq ?_
    refine Sat.reg (by kernel_rfl) ?_
    simp -dsimp [t0, e1, e2]
    exact Sat.ret (PureQ.ret rfl keep_refl rfl)
theorem w_rindex (c : Int) : Pure Tryd.prog 31 [.int .i64 c] (.int .i64 (match slotM c with | some i => i | none => -1)) := by
  refine Pure.of_body Tryd.func31 rfl (by kernel_rfl) Tryd.ntmps31 (by rw [Tryd.results31]) (Nat.le_of_ble_eq_true rfl) fun h n => ?_
  refine Sat.sq ?_
  refine Sat.reg (by kernel_rfl) ?_
  simp -dsimp
  refine Sat.sq ?_
  refine Sat.join (fun T h' n' => find T 13 = some (.bool (slotM c).isNone) ∧ find T 0 = some (.int .i64 c) ∧ h' = h ∧ n' = n) ?_ ?_
  · refine Sat.reg (by kernel_rfl) ?_
    by_cases c2 : c < 54000
    · have e : slotM c = none := by simp [slotM]; omega
      simp -dsimp [c2, e]
    · by_cases c3 : 59000 < c
      · have e : slotM c = none := by simp [slotM]; omega
        simp -dsimp [c2, c3, e]
      · by_cases c1 : c.tmod 1000 = 0
        · have e : (slotM c).isNone = false := by simp [slotM, c1]; omega
          simp -dsimp [c1, c2, c3, e]
        · have e : slotM c = none := by simp [slotM, c1]
          simp -dsimp [c1, c2, c3, e]
  rintro T h' n' ⟨t14, t0, rfl, rfl⟩
  cases hs : slotM c with
  | none =>
    rw [hs] at t14
    refine Sat.cond (t := true) t14 ?_
    refine Sat.sq ?_
    refine Sat.reg (by kernel_rfl) ?_
    simp -dsimp
    exact Sat.ret (PureQ.ret rfl keep_refl rfl)
  | some i =>
    rw [hs] at t14
    simp only [slotM] at hs
    split at hs
    rotate_left
    · cases hs
    rename_i hc
    obtain ⟨e1, e2, e3⟩ := slot_div hc.1 hc.2.1 hc.2.2
    simp only [Option.some.injEq] at hs
    rw [hs] at e2
    refine Sat.cond (t := false) t14 ?_
    refine Sat.skip ?_
    simp -dsimp
    refine Sat.sq ?_
    refine Sat.reg (by kernel_rfl) ?_
    simp -dsimp [t0, e1, e2]
    exact Sat.ret (PureQ.ret rfl keep_refl rfl)

end Go.Proofs.YtocbmekcokenoaaDoor
/- Walks, part B2. -/
set_option maxRecDepth 100000
set_option maxHeartbeats 4000000
set_option linter.unusedSimpArgs false
set_option linter.unusedVariables false
namespace Go.Proofs.YtocbmekcokenoaaDoor
open Go Go.Dm
attribute [local simp ↓] RunS_nil RunS_op RunS_guard RunT_nil RunT_op RunT_guard opS_call opD_call opS_move opD_move opS_assign opD_assign opS_pick opD_pick opS_nilCheck opD_nilCheck opS_fieldAddr opD_fieldAddr opS_indexAddr opD_indexAddr opS_load opD_load opS_store opD_store opS_alloc opD_alloc opS_box opD_box opS_build opD_build opS_buildSlice opD_buildSlice opS_field opD_field opS_extract opD_extract opS_makeFunc opD_makeFunc opS_slice opD_slice opS_binOp opD_binOp opS_unOp opD_unOp opS_convert opD_convert opS_index opD_index opS_len opD_len opS_append opD_append opS_max opD_max opS_min opD_min opS_makeSlice opD_makeSlice opS_makeInterface opD_makeInterface opS_copy opD_copy opS_data opD_data opS_string opD_string opS_cap opD_cap obind_some obind_none thenH_normal thenH_ret thenH_exit blockA_normal blockA_ret blockA_exit thenA_normal thenA_ret thenA_exit dstAt_mk dstL_zero dstL_succ
attribute [local simp] undef wantG_bool wantG_undef findO_some calleeS find putA ev closed3 closed2 closed1 closed0 pickA orE_some orE_none binF binXO binX binB strX unF convF convX convB mxF eqNilA fastBin fastUn fastConv intBin argEnv resultsA resultsL resultA notTuple allocs eff
  loadO storeO allocO boxO sliceO sliceX indexO indexXO indexX indexB lenO lenS capX ifaceO indexAddrA loadA storeA newA isAggT nilCheckA lenA evAll evParts aadd gen upd_at upd_upd Value.cells mxV Pairs apart readsS readB labOf putAt fieldA partA extractA makeFuncA evOpt boundOf sliceA isV0 Nat.add_assoc
attribute [local simp] bu23_z bu23_0_1_2 bu27_z bu27_0_1 bu27_0 bu33_z bu33_0 bu48_0_1 bu61_0_1 bs25_0_z bs25_1_0 bs31_0_z bs31_1_0 bs74_1_0 bs82_3_0_1_2
attribute [local simp ↓] eql23 neq23 eql48 neq48 eql61 neq61 eql24 neq24
attribute [local simp] fa23_0 fa23_1 fa23_2 fa48_0 fa48_1 fa61_0 fa61_1 fa33_0 fa33_1 fa27_0 fa27_1
attribute [local simp] c2 b2 z2 c3 b3 z3 c4 b4 z4 c5 b5 z5 c9 b9 z9 c23 b23 z23 h23 g23 c24 b24 z24 c25 b25 z25 c27 b27 z27 h27 g27 c29 b29 z29 c31 b31 z31 c33 b33 z33 h33 g33 c48 b48 z48 h48 g48 c50 b50 z50 c58 b58 z58 c61 b61 z61 h61 g61 Tryd.underlying2 Tryd.underlying3 Tryd.underlying4 Tryd.underlying5 Tryd.underlying9 Tryd.underlying23 Tryd.underlying24 Tryd.underlying25 Tryd.underlying27 Tryd.underlying29 Tryd.underlying31 Tryd.underlying33 Tryd.underlying48 Tryd.underlying50 Tryd.underlying58 Tryd.underlying61
theorem w_sIndexFuncPos {h : Heap} {s : Value} {ps : List P3} (hr : RD h 3 s (posCells ps) ps.length) (few : ps.length ≤ 1000) (n : Nat) :
    Dm.Spec Tryd.prog 43 [s, .func (.func 25) #[] #[]] h n fun r' h' n' => r' = .int .i64 (firstF (farAt ps) ps.length 0) ∧ h' = h ∧ n' = n := by
  refine pureAt Tryd.func43 rfl (by kernel_rfl) Tryd.ntmps43 (by rw [Tryd.results43]) (Nat.le_of_ble_eq_true rfl) ?_
  obtain ⟨Ad, cd, rfl⟩ := hr.len
  refine Sat.sq ?_
  refine Sat.reg (by kernel_rfl) ?_
  simp -dsimp
  refine Sat.sq ?_
  refine Sat.sq ?_
  refine Sat.reg (by kernel_rfl) ?_
  simp -dsimp
  refine Sat.block ?_
  refine Sat.loop (ι := Int) (fun i T h' n' => find T 0 = some (.slice Ad ps.length cd) ∧ find T 1 = some (.func (.func 25) #[] #[]) ∧ find T 7 = some (.int .i64 ps.length) ∧ find T 8 = some (.int .i64 i) ∧ h' = h ∧ n' = n ∧ 0 ≤ i ∧ i ≤ ps.length ∧ firstF (farAt ps) (ps.length - i).toNat i = firstF (farAt ps) ps.length 0) (fun i => (ps.length - i).toNat) 0 ?_ ?_
  · refine ⟨rfl, rfl, rfl, rfl, rfl, rfl, by omega, by omega, by simp⟩
  · rintro i T h' n' ⟨t0, t1, t7, t8, rfl, rfl, i0, i1, hi⟩
    refine Sat.sq ?_
    refine Sat.reg (by kernel_rfl) ?_
    simp -dsimp [t7, t8]
    refine Sat.sq ?_
    refine Sat.ite rfl (fun hc => ?_) (fun hc => ?_)
    · have hc : i < ps.length := by simpa using hc
      obtain ⟨B, o, sp, b, hB, ap⟩ := hr.pos i0 hc
      rw [firstF_step hc] at hi
      have hfa : farAt ps i = (ps[i.toNat]!).far := rfl
      generalize ps[i.toNat]! = p at *
      refine Sat.skip ?_
      simp -dsimp
      refine Sat.sq ?_
      refine Sat.block ?_
      refine Sat.sq ?_
      refine Sat.reg (by kernel_rfl) ?_
      simp -dsimp [t8]
      refine Sat.sq ?_
      refine Sat.reg (by kernel_rfl) ?_
      simp -dsimp [t0, t1, -indexAddrA, ap.idx, ↓ap.l, hB]
      refine (w_tfar ..).useH ?_
      simp -dsimp
      refine Sat.ite rfl (fun hf => ?_) (fun hf => ?_)
      · refine Sat.sq ?_
        refine Sat.reg (by kernel_rfl) ?_
        simp -dsimp
        rw [hfa, hf, if_pos rfl] at hi
        refine Sat.ret ?_
        try simp -dsimp only [thenH_ret, blockA_ret, thenA_ret]
        exact PureQ.ret (by rfl) keep_refl (by simp [← hi])
      · rw [hfa, hf, if_neg (by simp)] at hi
        refine Sat.skip ?_
        simp -dsimp
        have W : IntKind.i64.wrap (i + 1) = i + 1 := wrap_in (by omega) (by omega)
        refine Sat.reg (by kernel_rfl) ?_
        simp -dsimp [t0, t1, t7, t8, W]
        exact ⟨i + 1, ⟨rfl, by omega, by omega, hi⟩, by omega⟩
    · have hc : ¬ i < ps.length := by simpa using hc
      refine Sat.exit ?_
      rw [show (ps.length - i).toNat = 0 by omega] at hi
      simp -dsimp
      refine Sat.sq ?_
      refine Sat.reg (by kernel_rfl) ?_
      simp -dsimp
      refine Sat.ret ?_
      try simp -dsimp only [thenH_ret, blockA_ret, thenA_ret]
      exact PureQ.ret (by rfl) keep_refl (by simp [← hi, firstF])
theorem w_sContainsFuncPos {h : Heap} {s : Value} {ps : List P3} (hr : RD h 3 s (posCells ps) ps.length) (few : ps.length ≤ 1000) (n : Nat) :
    Dm.Spec Tryd.prog 24 [s, .func (.func 25) #[] #[]] h n fun r' h' n' => r' = .bool (anyFrom (farAt ps) ps.length 0) ∧ h' = h ∧ n' = n := by
  refine pureAt Tryd.func24 rfl (by kernel_rfl) Tryd.ntmps24 (by rw [Tryd.results24]) (Nat.le_of_ble_eq_true rfl) ?_
  obtain ⟨Ad, cd, rfl⟩ := hr.len
  refine Sat.sq ?_
  refine Sat.reg (by kernel_rfl) ?_
  simp -dsimp
  refine Sat.sq ?_
  refine Sat.reg (by kernel_rfl) ?_
  simp -dsimp
  refine (w_sIndexFuncPos hr few n).useH ?_
  simp -dsimp
  have e := firstF_any (f := farAt ps) ps.length 0 (by omega)
  exact Sat.ret (PureQ.ret rfl keep_refl (by simp [← e]))

end Go.Proofs.YtocbmekcokenoaaDoor
/- Walks, part B3. -/
set_option maxRecDepth 100000
set_option maxHeartbeats 4000000
set_option linter.unusedSimpArgs false
set_option linter.unusedVariables false
namespace Go.Proofs.YtocbmekcokenoaaDoor
open Go Go.Dm
attribute [local simp ↓] RunS_nil RunS_op RunS_guard RunT_nil RunT_op RunT_guard opS_call opD_call opS_move opD_move opS_assign opD_assign opS_pick opD_pick opS_nilCheck opD_nilCheck opS_fieldAddr opD_fieldAddr opS_indexAddr opD_indexAddr opS_load opD_load opS_store opD_store opS_alloc opD_alloc opS_box opD_box opS_build opD_build opS_buildSlice opD_buildSlice opS_field opD_field opS_extract opD_extract opS_makeFunc opD_makeFunc opS_slice opD_slice opS_binOp opD_binOp opS_unOp opD_unOp opS_convert opD_convert opS_index opD_index opS_len opD_len opS_append opD_append opS_max opD_max opS_min opD_min opS_makeSlice opD_makeSlice opS_makeInterface opD_makeInterface opS_copy opD_copy opS_data opD_data opS_string opD_string opS_cap opD_cap obind_some obind_none thenH_normal thenH_ret thenH_exit blockA_normal blockA_ret blockA_exit thenA_normal thenA_ret thenA_exit dstAt_mk dstL_zero dstL_succ
attribute [local simp] undef wantG_bool wantG_undef findO_some calleeS find putA ev closed3 closed2 closed1 closed0 pickA orE_some orE_none binF binXO binX binB strX unF convF convX convB mxF eqNilA fastBin fastUn fastConv intBin argEnv resultsA resultsL resultA notTuple allocs eff
  loadO storeO allocO boxO sliceO sliceX indexO indexXO indexX indexB lenO lenS capX ifaceO indexAddrA loadA storeA newA isAggT nilCheckA lenA evAll evParts aadd gen upd_at upd_upd Value.cells mxV Pairs apart readsS readB labOf putAt fieldA partA extractA makeFuncA evOpt boundOf sliceA isV0 Nat.add_assoc
attribute [local simp] bu23_z bu23_0_1_2 bu27_z bu27_0_1 bu27_0 bu33_z bu33_0 bu48_0_1 bu61_0_1 bs25_0_z bs25_1_0 bs31_0_z bs31_1_0 bs74_1_0 bs82_3_0_1_2
attribute [local simp ↓] eql23 neq23 eql48 neq48 eql61 neq61 eql24 neq24
attribute [local simp] fa23_0 fa23_1 fa23_2 fa48_0 fa48_1 fa61_0 fa61_1 fa33_0 fa33_1 fa27_0 fa27_1
attribute [local simp] c2 b2 z2 c3 b3 z3 c4 b4 z4 c5 b5 z5 c9 b9 z9 c23 b23 z23 h23 g23 c24 b24 z24 c25 b25 z25 c27 b27 z27 h27 g27 c29 b29 z29 c31 b31 z31 c33 b33 z33 h33 g33 c48 b48 z48 h48 g48 c50 b50 z50 c58 b58 z58 c61 b61 z61 h61 g61 Tryd.underlying2 Tryd.underlying3 Tryd.underlying4 Tryd.underlying5 Tryd.underlying9 Tryd.underlying23 Tryd.underlying24 Tryd.underlying25 Tryd.underlying27 Tryd.underlying29 Tryd.underlying31 Tryd.underlying33 Tryd.underlying48 Tryd.underlying50 Tryd.underlying58 Tryd.underlying61
abbrev u_tValid_6 : List (Nat × Nat) := []
abbrev u_rValid_9 : List (Nat × Nat) := []
theorem any_work (T : Tb) : anyFrom (farAt T.work) 6 0 = T.work.any P3.far := by
  simp [anyFrom, farAt, Tb.work, Bool.or_assoc]
theorem get_lt {α : Type} [Inhabited α] {l : List α} {i : Int} (h0 : 0 ≤ i) (h1 : i < l.length) : l[i.toNat]! ∈ l := by
  have : i.toNat < l.length := by omega
  simp [this]
theorem w_tValid {h : Heap} {s : Value} {T : Tb} (hr : RD h 2 s (lnCells T.ls) T.ls.length) (few : T.ls.length ≤ 1000000000000) (n : Nat) :
    Dm.Spec Tryd.prog 9 [T.v s] h n fun r' h' n' => r' = .int .i64 T.code ∧ h' = h ∧ n' = n := by
  refine pureAt Tryd.func9 rfl (by kernel_rfl) Tryd.ntmps9 (by rw [Tryd.results9]) (Nat.le_of_ble_eq_true rfl) ?_
  refine Sat.lt fun hlt => ?_
  obtain ⟨Ad, cd, rfl⟩ := hr.len
  refine Sat.sq ?_
  refine Sat.reg (by kernel_rfl) ?_
  simp -dsimp
  generalize hh1 : upd h n _ = h1
  have hr1 : RD h1 2 _ (lnCells T.ls) T.ls.length := hh1 ▸ hr.upd hlt (Nat.le_refl n) _
  have hn : h1 n = some ⟨T.wcells ++ [.slice Ad T.ls.length cd], 33, 0, true⟩ := by rw [← hh1]; simp [upd_at]
  have hk : ∀ L, L < n → h1 L = h L := fun L hL => by rw [← hh1, upd_at, if_neg (by omega)]
  have hlt1 : ∀ L b, h1 L = some b → L < n + 1 := fun L b hb => by
    rw [← hh1, upd_at] at hb; split at hb
    · omega
    · have := hlt L b hb; omega
  have hw : RD h1 3 (.slice (some ⟨n, 0, none⟩) 6 1) (posCells T.work) 6 := ⟨by rw [posCells_length]; rfl, _, _, rfl, (fun h => nomatch h), fun _ => ⟨_, _, rfl, hn, rfl, by simp, by simp [posCells]⟩⟩
  refine Sat.sq ?_
  refine Sat.sq ?_
  refine Sat.reg (by kernel_rfl) ?_
  simp -dsimp [hn]
  refine (w_sContainsFuncPos (ps := T.work) hw (by simp) _).useH ?_
  rw [show T.work.length = 6 from rfl, any_work]
  simp -dsimp
  refine Sat.ite rfl (fun hf => ?_) (fun hf => ?_)
  · refine Sat.sq ?_
    refine Sat.reg (by kernel_rfl) ?_
    simp -dsimp
    exact Sat.ret (PureQ.ret rfl hk (by simp [Tb.code, Tb.bad, hf]))
  refine Sat.skip ?_
  simp -dsimp
  refine Sat.sq ?_
  refine Sat.sq ?_
  refine Sat.reg (by kernel_rfl) ?_
  simp -dsimp [hn]
  refine Sat.block ?_
  refine Sat.loop (ι := Int) (fun x T' h' n' => find T' 1 = some (.pointer (some ⟨n, 0, none⟩)) ∧ find T' 9 = some (.slice Ad T.ls.length cd) ∧ find T' 10 = some (.int .i64 T.ls.length) ∧ find T' 11 = some (.int .i64 x) ∧ n < n' ∧ (∀ L b, h1 L = some b → h' L = some b) ∧ (∀ L, L < n → h' L = h L) ∧ 0 ≤ x ∧ x ≤ T.ls.length ∧ anyFrom (badL T.ls) (T.ls.length - x).toNat x = anyFrom (badL T.ls) T.ls.length 0) (fun x => (T.ls.length - x).toNat) 0 ?_ ?_
  · refine ⟨rfl, rfl, rfl, rfl, by omega, fun _ _ h => h, hk, by omega, by omega, by simp⟩
  · rintro i T' h' n' ⟨t1, t9, t10, t11, hnn, hsub, hk', i0, i1, hi⟩
    refine Sat.lt fun hlt' => ?_
    refine Sat.sq ?_
    refine Sat.reg (by kernel_rfl) ?_
    simp -dsimp [t10, t11]
    refine Sat.sq ?_
    refine Sat.ite rfl (fun hc => ?_) (fun hc => ?_)
    · have hc : i < T.ls.length := by simpa using hc
      have hr' := hr1.mono hsub
      obtain ⟨B, o, sp, b, hB, ap⟩ := hr'.tln i0 hc
      have lB := hlt' _ _ hB
      rw [anyFrom_step hc] at hi
      have hb1 : badL T.ls i = (!(T.ls[i.toNat]!).ok || (decide (0 < i) && decide ((T.ls[(i - 1).toNat]!).n ≥ (T.ls[i.toNat]!).n))) := rfl
      generalize T.ls[i.toNat]! = m at *
      refine Sat.skip ?_
      simp -dsimp
      refine Sat.sq ?_
      refine Sat.block ?_
      refine Sat.sq ?_
      refine Sat.reg (by kernel_rfl) ?_
      simp -dsimp [t9, t11, -indexAddrA, ap.idx, ↓ap.l, hB, show ¬ B = n' by omega]
      generalize hh2 : upd h' n' _ = h2
      have hsub2 : ∀ L b, h' L = some b → h2 L = some b := fun L b hb => by rw [← hh2, upd_at, if_neg (by have := hlt' _ _ hb; omega)]; exact hb
      have hn2 : h2 n = some _ := hsub2 _ _ (hsub _ _ hn)
      have hm2 : h2 n' = some ⟨[.int .i64 m.n, .int .i64 m.l], 48, 0, true⟩ := by rw [← hh2]; simp [upd_at]
      have hk2 : ∀ L, L < n → h2 L = h L := fun L hL => by rw [← hh2, upd_at, if_neg (by omega)]; exact hk' L hL
      refine Sat.join (fun T'' h'' n'' => find T'' 34 = some (.bool (badL T.ls i)) ∧ find T'' 1 = some (.pointer (some ⟨n, 0, none⟩)) ∧ find T'' 9 = some (.slice Ad T.ls.length cd) ∧ find T'' 10 = some (.int .i64 T.ls.length) ∧ find T'' 11 = some (.int .i64 i) ∧ h'' = h2 ∧ n'' = n' + 1) ?_ ?_
      · refine Sat.drw u_tValid_6 mixed (by kernel_rfl) (by kernel_rfl) (by kernel_rfl) (by kernel_rfl) ?_
        simp -dsimp [hm2, t11]
        refine callD.pure (w_tentry m) ?_
        cases hok : m.ok
        · simp -dsimp [hm2, t1, t9, t10, t11, hb1, hok]
        · by_cases hi0 : 0 < i
          · obtain ⟨B2, o2, sp2, b2, hB2, ap2⟩ := (hr'.mono hsub2).tln (i := i - 1) (by omega) (by omega)
            generalize T.ls[(i - 1).toNat]! = m2 at *
            have W : IntKind.i64.wrap (i - 1) = i - 1 := wrap_in (by omega) (by omega)
            simp -dsimp [hm2, hn2, t1, t9, t10, t11, hb1, hok, hi0, W, -indexAddrA, ap2.idx, ↓ap2.ln, hB2]
          · simp -dsimp [hm2, t1, t9, t10, t11, hb1, hok, hi0]
      rintro T2 h3 n3 ⟨t34, t1, t9, t10, t11, rfl, rfl⟩
      cases hbd : badL T.ls i
      · rw [hbd, Bool.false_or] at hi
        rw [hbd] at t34
        refine Sat.cond (t := false) t34 ?_
        refine Sat.skip ?_
        simp -dsimp
        have W : IntKind.i64.wrap (i + 1) = i + 1 := wrap_in (by omega) (by omega)
        refine Sat.reg (by kernel_rfl) ?_
        simp -dsimp [t1, t9, t10, t11, W]
        exact ⟨i + 1, ⟨rfl, by omega, fun L b hb => hsub2 _ _ (hsub _ _ hb), hk2, by omega, by omega, hi⟩, by omega⟩
      · rw [hbd, Bool.true_or] at hi
        rw [hbd] at t34
        refine Sat.cond (t := true) t34 ?_
        refine Sat.sq ?_
        refine Sat.reg (by kernel_rfl) ?_
        simp -dsimp
        refine Sat.ret ?_
        try simp -dsimp only [thenH_ret, blockA_ret, thenA_ret]
        refine PureQ.ret (by rfl) hk2 ?_
        simp [Tb.code, Tb.bad, ← hi]
    · have hc : ¬ i < T.ls.length := by simpa using hc
      refine Sat.exit ?_
      rw [show (T.ls.length - i).toNat = 0 by omega] at hi
      simp -dsimp
      refine Sat.sq ?_
      refine Sat.reg (by kernel_rfl) ?_
      simp -dsimp
      refine Sat.ret ?_
      try simp -dsimp only [thenH_ret, blockA_ret, thenA_ret]
      refine PureQ.ret (by rfl) hk' ?_
      simp [Tb.code, Tb.bad, ← hi, hf, anyFrom]
theorem work_at (T : Tb) (s : Value) {i : Int} (h0 : 0 ≤ i) (h1 : i < 6) : ((T.wcells ++ [s]).drop (i.toNat * 3)).take 3 = (T.work[i.toNat]!).cells := by
  obtain rfl | rfl | rfl | rfl | rfl | rfl : i = 0 ∨ i = 1 ∨ i = 2 ∨ i = 3 ∨ i = 4 ∨ i = 5 := by omega
  all_goals rfl
theorem w_rValid {h : Heap} {s : Value} {T : Tb} (hr : RD h 2 s (lnCells T.ls) T.ls.length) (few : T.ls.length ≤ 1000000000000) (n : Nat) :
    Dm.Spec Tryd.prog 11 [T.v s] h n fun r' h' n' => r' = .int .i64 T.code ∧ h' = h ∧ n' = n := by
  refine pureAt Tryd.func11 rfl (by kernel_rfl) Tryd.ntmps11 (by rw [Tryd.results11]) (Nat.le_of_ble_eq_true rfl) ?_
  refine Sat.lt fun hlt => ?_
  obtain ⟨Ad, cd, rfl⟩ := hr.len
  refine Sat.sq ?_
  refine Sat.reg (by kernel_rfl) ?_
  simp -dsimp
  generalize hh1 : upd h n _ = h1
  have hr1 : RD h1 2 _ (lnCells T.ls) T.ls.length := hh1 ▸ hr.upd hlt (Nat.le_refl n) _
  have hn : h1 n = some ⟨T.wcells ++ [.slice Ad T.ls.length cd], 27, 0, true⟩ := by rw [← hh1]; simp [upd_at]
  have hk : ∀ L, L < n → h1 L = h L := fun L hL => by rw [← hh1, upd_at, if_neg (by omega)]
  have hlt1 : ∀ L b, h1 L = some b → L < n + 1 := fun L b hb => by
    rw [← hh1, upd_at] at hb; split at hb
    · omega
    · have := hlt L b hb; omega
  have hpos : ∀ i : Int, 0 ≤ i → i < 6 → loadA Tryd.prog h1 23 ⟨n, i.toNat * 3, none⟩ = some (T.work[i.toNat]!).v := by
    intro i i0 i1
    unfold loadA
    simp only [Tryd.underlying23, hn, gen, isAggT, c23, if_true]
    rw [work_at T _ i0 i1]
    rw [if_pos (show 0 < 3 ∧ i.toNat * 3 + 3 ≤ _ from ⟨by omega, by simp; omega⟩)]
    rfl
  obtain ⟨A, hA⟩ : ∃ A, T.work.any P3.far = A := ⟨_, rfl⟩
  refine Sat.sq ?_
  refine Sat.sq ?_
  refine Sat.reg (by kernel_rfl) ?_
  simp -dsimp
  refine Sat.block ?_
  refine Sat.loop (ι := Int) (fun i T' h' n' => find T' 1 = some (.pointer (some ⟨n, 0, none⟩)) ∧ find T' 3 = some (.int .i64 i) ∧ h1 = h' ∧ n + 1 = n' ∧ 0 ≤ i ∧ i ≤ 6 ∧ anyFrom (farAt T.work) (6 - i).toNat i = A) (fun i => (6 - i).toNat) 0 ?_ ?_
  · refine ⟨rfl, rfl, rfl, rfl, by omega, by omega, (any_work T).trans hA⟩
  · rintro i T' h' n' ⟨t1, t3, rfl, rfl, i0, i1, hi⟩
    refine Sat.sq ?_
    refine Sat.sq ?_
    refine Sat.reg (by kernel_rfl) ?_
    simp -dsimp [t3]
    refine Sat.ite rfl (fun hc => ?_) (fun hc => ?_)
    · have hc : i < 6 := by simpa using hc
      rw [anyFrom_step hc] at hi
      have hp := hpos i i0 hc
      have hfa : farAt T.work i = (T.work[i.toNat]!).far := rfl
      generalize T.work[i.toNat]! = p at *
      refine Sat.skip ?_
      simp -dsimp
      refine Sat.sq ?_
      refine Sat.block ?_
      refine Sat.sq ?_
      refine Sat.reg (by kernel_rfl) ?_
      simp -dsimp [t1, t3, i0, hc, ↓hp]
      refine (w_rout p).useH ?_
      simp -dsimp
      refine Sat.ite rfl (fun hf => ?_) (fun hf => ?_)
      · refine Sat.sq ?_
        refine Sat.reg (by kernel_rfl) ?_
        simp -dsimp
        refine Sat.ret ?_
        try simp -dsimp only [thenH_ret, blockA_ret, thenA_ret]
        refine PureQ.ret (by rfl) hk ?_
        rw [hfa, hf] at hi
        have e : T.code = 1 := by simp only [Tb.code, Tb.bad, hA, ← hi, Bool.true_or, if_true]
        rw [e]; simp
      · refine Sat.skip ?_
        simp -dsimp
        have W : IntKind.i64.wrap (i + 1) = i + 1 := wrap_in (by omega) (by omega)
        refine Sat.reg (by kernel_rfl) ?_
        simp -dsimp [t1, t3, W]
        rw [hfa, hf, Bool.false_or] at hi
        exact ⟨i + 1, ⟨rfl, by omega, by omega, hi⟩, by omega⟩
    · have hc : ¬ i < 6 := by simpa using hc
      refine Sat.exit ?_
      rw [show (6 - i).toNat = 0 by omega] at hi
      simp -dsimp
      have hf : T.work.any P3.far = false := hA.trans hi.symm
      refine Sat.sq ?_
      refine Sat.sq ?_
      refine Sat.reg (by kernel_rfl) ?_
      simp -dsimp
      refine Sat.block ?_
      refine Sat.loop (ι := Int) (fun i T' h' n' => find T' 1 = some (.pointer (some ⟨n, 0, none⟩)) ∧ find T' 4 = some (.int .i64 i) ∧ h1 = h' ∧ n + 1 = n' ∧ 0 ≤ i ∧ i ≤ T.ls.length ∧ anyFrom (badL T.ls) (T.ls.length - i).toNat i = anyFrom (badL T.ls) T.ls.length 0) (fun i => (T.ls.length - i).toNat) 0 ?_ ?_
      · refine ⟨t1, rfl, rfl, rfl, by omega, by omega, by simp⟩
      · rintro i T' h' n' ⟨t1, t4, rfl, rfl, i0, i1, hi⟩
        refine Sat.sq ?_
        refine Sat.sq ?_
        refine Sat.reg (by kernel_rfl) ?_
        simp -dsimp [t1, t4, hn]
        refine Sat.ite rfl (fun hc => ?_) (fun hc => ?_)
        · have hc : i < T.ls.length := by simpa using hc
          obtain ⟨B, o, sp, b, hB, ap⟩ := hr1.rln i0 hc
          rw [anyFrom_step hc] at hi
          have hb1 : badL T.ls i = (!(T.ls[i.toNat]!).ok || (decide (0 < i) && decide ((T.ls[(i - 1).toNat]!).n ≥ (T.ls[i.toNat]!).n))) := rfl
          generalize T.ls[i.toNat]! = m at *
          refine Sat.skip ?_
          simp -dsimp
          refine Sat.sq ?_
          refine Sat.block ?_
          refine Sat.join (fun T'' h'' n'' => find T'' 47 = some (.bool (badL T.ls i)) ∧ find T'' 1 = some (.pointer (some ⟨n, 0, none⟩)) ∧ find T'' 4 = some (.int .i64 i) ∧ h1 = h'' ∧ n + 1 = n'') ?_ ?_
          · refine Sat.drw u_rValid_9 mixed (by kernel_rfl) (by kernel_rfl) (by kernel_rfl) (by kernel_rfl) ?_
            simp -dsimp [hn, t1, t4, -indexAddrA, ap.idx, ↓ap.l, hB]
            refine callD.pure (w_rentry m) ?_
            cases hok : m.ok
            · simp -dsimp [t1, t4, hb1, hok]
            · by_cases hi0 : 0 < i
              · obtain ⟨B2, o2, sp2, b2, hB2, ap2⟩ := hr1.rln (i := i - 1) (by omega) (by omega)
                generalize T.ls[(i - 1).toNat]! = m2 at *
                have W : IntKind.i64.wrap (i - 1) = i - 1 := wrap_in (by omega) (by omega)
                simp -dsimp [hn, t1, t4, hb1, hok, hi0, W, -indexAddrA, ap2.idx, ↓ap2.ln, hB2, ap.idx, ↓ap.ln, hB]
              · simp -dsimp [t1, t4, hb1, hok, hi0]
          rintro T2 h3 n3 ⟨t34, t1, t4, rfl, rfl⟩
          cases hbd : badL T.ls i
          · rw [hbd, Bool.false_or] at hi
            rw [hbd] at t34
            refine Sat.cond (t := false) t34 ?_
            refine Sat.skip ?_
            simp -dsimp
            have W : IntKind.i64.wrap (i + 1) = i + 1 := wrap_in (by omega) (by omega)
            refine Sat.reg (by kernel_rfl) ?_
            simp -dsimp [t1, t4, W]
            exact ⟨i + 1, ⟨rfl, by omega, by omega, hi⟩, by omega⟩
          · rw [hbd, Bool.true_or] at hi
            rw [hbd] at t34
            refine Sat.cond (t := true) t34 ?_
            refine Sat.sq ?_
            refine Sat.reg (by kernel_rfl) ?_
            simp -dsimp
            refine Sat.ret ?_
            try simp -dsimp only [thenH_ret, blockA_ret, thenA_ret]
            refine PureQ.ret (by rfl) hk ?_
            simp [Tb.code, Tb.bad, ← hi]
        · have hc : ¬ i < T.ls.length := by simpa using hc
          refine Sat.exit ?_
          rw [show (T.ls.length - i).toNat = 0 by omega] at hi
          simp -dsimp
          refine Sat.sq ?_
          refine Sat.reg (by kernel_rfl) ?_
          simp -dsimp
          refine Sat.ret ?_
          try simp -dsimp only [thenH_ret, blockA_ret, thenA_ret]
          refine PureQ.ret (by rfl) hk ?_
          simp [Tb.code, Tb.bad, ← hi, hf, anyFrom]

end Go.Proofs.YtocbmekcokenoaaDoor
/- Walks, part B4. -/
set_option maxRecDepth 100000
set_option maxHeartbeats 4000000
set_option linter.unusedSimpArgs false
set_option linter.unusedVariables false
namespace Go.Proofs.YtocbmekcokenoaaDoor
open Go Go.Dm
attribute [local simp ↓] RunS_nil RunS_op RunS_guard RunT_nil RunT_op RunT_guard opS_call opD_call opS_move opD_move opS_assign opD_assign opS_pick opD_pick opS_nilCheck opD_nilCheck opS_fieldAddr opD_fieldAddr opS_indexAddr opD_indexAddr opS_load opD_load opS_store opD_store opS_alloc opD_alloc opS_box opD_box opS_build opD_build opS_buildSlice opD_buildSlice opS_field opD_field opS_extract opD_extract opS_makeFunc opD_makeFunc opS_slice opD_slice opS_binOp opD_binOp opS_unOp opD_unOp opS_convert opD_convert opS_index opD_index opS_len opD_len opS_append opD_append opS_max opD_max opS_min opD_min opS_makeSlice opD_makeSlice opS_makeInterface opD_makeInterface opS_copy opD_copy opS_data opD_data opS_string opD_string opS_cap opD_cap obind_some obind_none thenH_normal thenH_ret thenH_exit blockA_normal blockA_ret blockA_exit thenA_normal thenA_ret thenA_exit dstAt_mk dstL_zero dstL_succ
attribute [local simp] undef wantG_bool wantG_undef findO_some calleeS find putA ev closed3 closed2 closed1 closed0 pickA orE_some orE_none binF binXO binX binB strX unF convF convX convB mxF eqNilA fastBin fastUn fastConv intBin argEnv resultsA resultsL resultA notTuple allocs eff
  loadO storeO allocO boxO sliceO sliceX indexO indexXO indexX indexB lenO lenS capX ifaceO indexAddrA loadA storeA newA isAggT nilCheckA lenA evAll evParts aadd gen upd_at upd_upd Value.cells mxV Pairs apart readsS readB labOf putAt fieldA partA extractA makeFuncA evOpt boundOf sliceA isV0 Nat.add_assoc
attribute [local simp] bu23_z bu23_0_1_2 bu27_z bu27_0_1 bu27_0 bu33_z bu33_0 bu48_0_1 bu61_0_1 bs25_0_z bs25_1_0 bs31_0_z bs31_1_0 bs74_1_0 bs82_3_0_1_2
attribute [local simp ↓] eql23 neq23 eql48 neq48 eql61 neq61 eql24 neq24
attribute [local simp] fa23_0 fa23_1 fa23_2 fa48_0 fa48_1 fa61_0 fa61_1 fa33_0 fa33_1 fa27_0 fa27_1
attribute [local simp] c2 b2 z2 c3 b3 z3 c4 b4 z4 c5 b5 z5 c9 b9 z9 c23 b23 z23 h23 g23 c24 b24 z24 c25 b25 z25 c27 b27 z27 h27 g27 c29 b29 z29 c31 b31 z31 c33 b33 z33 h33 g33 c48 b48 z48 h48 g48 c50 b50 z50 c58 b58 z58 c61 b61 z61 h61 g61 Tryd.underlying2 Tryd.underlying3 Tryd.underlying4 Tryd.underlying5 Tryd.underlying9 Tryd.underlying23 Tryd.underlying24 Tryd.underlying25 Tryd.underlying27 Tryd.underlying29 Tryd.underlying31 Tryd.underlying33 Tryd.underlying48 Tryd.underlying50 Tryd.underlying58 Tryd.underlying61
theorem ne2 {a b : Nat} (h : a < b) : ¬ a = b ∧ ¬ b = a := by omega
theorem allocs_at (n L : Nat) (b : Blk) : allocs n (some (L, b)) = if L = n then n + 1 else n := rfl
theorem eff_at (h : Heap) (L : Nat) (b : Blk) : eff h (some (L, b)) = upd h L b := rfl
theorem carries_agg (pre : List Value) (hp : pre.all closed1 = true) : Carries fun s => .agg ⟨pre ++ [s]⟩ := by
  rintro m s r' ⟨A, l, c, rfl⟩ h
  obtain ⟨ys, rfl, h5⟩ := agg_inv h
  obtain ⟨ys⟩ := ys
  simp only at h5
  have key : ∀ (pre ys : List Value), pre.all closed1 = true → All2 (VR1 m) (pre ++ [.slice A l c]) ys → ∃ s', VR0 m (.slice A l c) s' ∧ ∀ m2 s2, VR0 m2 s2 s' → All2 (VR1 m2) (pre ++ [s2]) ys := by
    intro pre
    induction pre with
    | nil =>
      intro ys _ h
      cases h with | @cons _ y _ bs h1 h2 =>
      cases h2
      refine ⟨y, ?_, fun m2 s2 h => .cons (.of0 h) .nil⟩
      cases h1 with | of0 h => exact h
    | cons p pre ih =>
      intro ys hp h
      simp only [List.all_cons, Bool.and_eq_true] at hp
      cases h with | @cons _ y _ bs h1 h2 =>
      obtain ⟨s', hs, hup⟩ := ih bs hp.2 h2
      refine ⟨s', hs, fun m2 s2 h => .cons ?_ (hup m2 s2 h)⟩
      rw [h1.eq hp.1]; exact VR1.refl hp.1
  obtain ⟨s', hs, hup⟩ := key pre ys hp h5
  exact ⟨s', hs, fun m2 s2 h2 => .of2 (.agg (hup m2 s2 h2))⟩
theorem carries_tab (T : Tb) : Carries fun s => T.v s := carries_agg T.wcells rfl
theorem take_ls {l : List Ln} {i : Int} (h0 : 0 ≤ i) (h1 : i < l.length) : l.take (i + 1).toNat = l.take i.toNat ++ [l[i.toNat]!] := by
  have hj : i.toNat < l.length := by omega
  rw [show (i + 1).toNat = i.toNat + 1 by omega, List.take_add_one]
  simp [hj]
/-- A table whose slice is fresh. -/
def freshTab (e : TypeId) (T : Tb) (h : Heap) (n : Nat) (r : Value) (h' : Heap) (n' : Nat) : Prop := n ≤ n' ∧ (∀ L, L < n → h' L = h L) ∧ ∃ s', r = T.v s' ∧ GS h' e 2 s' (lnCells T.ls) T.ls.length n n'
theorem w_ltheirs_raw {h : Heap} {s : Value} {T : Tb} (hr : RD h 2 s (lnCells T.ls) T.ls.length) (few : T.ls.length ≤ 1000000000000) (n : Nat) :
    Dm.Spec Tryd.prog 10 [T.v s] h n (freshTab 48 T h n) := by
  refine Spec.body Tryd.func10 rfl (by kernel_rfl) Tryd.ntmps10 (by rw [Tryd.results10]) (Nat.le_of_ble_eq_true rfl) ?_
  refine Sat.lt fun hlt => ?_
  obtain ⟨Ad, cd, rfl⟩ := hr.len
  refine Sat.sq ?_
  refine Sat.reg (by kernel_rfl) ?_
  simp -dsimp
  refine Sat.sq ?_
  refine Sat.reg (by kernel_rfl) ?_
  simp -dsimp
  generalize hh1 : upd _ (n + 2) _ = h1
  have hk : ∀ L, L < n → h1 L = h L := fun L hL => by rw [← hh1]; simp only [upd_at]; rw [if_neg (by omega), if_neg (by omega), if_neg (by omega)]
  have hb0 : h1 n = some ⟨T.wcells ++ [.slice Ad T.ls.length cd], 27, 0, true⟩ := by rw [← hh1]; simp [upd_at]
  have hb1 : h1 (n + 1) = some ⟨[.int .i64 0, .int .i64 0, .int .i64 0, .int .i64 0, .int .i64 0, .int .i64 0, .int .i64 0, .int .i64 0, .int .i64 0, .int .i64 0, .int .i64 0, .int .i64 0, .int .i64 0, .int .i64 0, .int .i64 0, .int .i64 0, .int .i64 0, .int .i64 0, .slice none 0 0], 33, 0, true⟩ := by rw [← hh1]; simp [upd_at]
  have hb2 : h1 (n + 2) = some ⟨T.wcells ++ [.slice none 0 0], 33, 0, true⟩ := by rw [← hh1]; simp [upd_at]
  have hr1 : RD h1 2 _ (lnCells T.ls) T.ls.length := hr.mono fun L b hb => by rw [hk L (hlt _ _ hb)]; exact hb
  refine Sat.sq ?_
  refine Sat.sq ?_
  refine Sat.reg (by kernel_rfl) ?_
  simp -dsimp [hb0]
  refine Sat.block ?_
  refine Sat.loop (ι := Int) (fun i T' h' n' => find T' 2 = some (.pointer (some ⟨n + 1, 0, none⟩)) ∧ find T' 3 = some (.pointer (some ⟨n + 2, 0, none⟩)) ∧ find T' 10 = some (.slice Ad T.ls.length cd) ∧ find T' 11 = some (.int .i64 T.ls.length) ∧ find T' 12 = some (.int .i64 i) ∧ n + 3 ≤ n' ∧
    (∀ L, L < n + 2 → h' L = h1 L) ∧ 0 ≤ i ∧ i ≤ T.ls.length ∧ ∃ s', h' (n + 2) = some ⟨T.wcells ++ [s'], 33, 0, true⟩ ∧ GS h' 48 2 s' (lnCells (T.ls.take i.toNat)) i.toNat (n + 3) n') (fun i => (T.ls.length - i).toNat) 0 ?_ ?_
  · refine ⟨rfl, rfl, rfl, rfl, rfl, by omega, fun _ _ => rfl, by omega, by omega, _, hb2, ?_⟩
    simpa [lnCells] using GS.nil
  · rintro i T' h' n' ⟨t2, t3, t10, t11, t12, hnn, hsame, i0, i1, s', hs2, hg⟩
    refine Sat.sq ?_
    refine Sat.reg (by kernel_rfl) ?_
    simp -dsimp [t11, t12]
    refine Sat.sq ?_
    refine Sat.ite rfl (fun hc => ?_) (fun hc => ?_)
    · have hc : i < T.ls.length := by simpa using hc
      obtain ⟨B, o, sp, b, hB, ap⟩ := hr1.rln i0 hc
      have lB : B < n := by
        rcases Nat.lt_or_ge B n with hlt' | hge
        · exact hlt'
        · have := (hr.rln i0 hc); obtain ⟨B', o', sp', b', hB', ap'⟩ := this
          have e := ap.idx.symm.trans ap'.idx
          cases e; exact hlt _ _ hB'
      have hB' : h' B = some b := by rw [hsame B (by omega)]; exact hB
      have htk := take_ls i0 hc
      generalize T.ls[i.toNat]! = m at *
      refine Sat.skip ?_
      simp -dsimp
      refine Sat.sq ?_
      refine Sat.block ?_
      refine Sat.sq ?_
      refine Sat.reg (by kernel_rfl) ?_
      simp -dsimp [t10, t12, -indexAddrA, ap.idx, ↓ap.l, hB', ne2 (show B < n' by omega)]
      generalize hh2 : upd h' n' _ = h2
      have hm2 : h2 n' = some ⟨[.int .i64 m.n, .int .i64 m.l], 61, 0, true⟩ := by rw [← hh2]; simp [upd_at]
      have hk2 : ∀ L, L < n' → h2 L = h' L := fun L hL => by rw [← hh2, upd_at, if_neg (by omega)]
      have hs3 : h2 (n + 2) = some ⟨T.wcells ++ [s'], 33, 0, true⟩ := by rw [hk2 _ (by omega)]; exact hs2
      have hg2 : GS (upd h2 (n' + 1) ⟨[.int .i64 m.n, .int .i64 m.l], 48, 0, true⟩) 48 2 s' (lnCells (T.ls.take i.toNat)) i.toNat (n + 3) n' := hg.frame (fun L h1 h2 => by rw [upd_at, if_neg (by omega), hk2 _ h2]) (Nat.le_refl _)
      obtain ⟨s2, E, ha, hfr, hal, hal2, hg5⟩ := hg2.append (P := Tryd.prog) (t := 31) (L := n' + 2) (B := n' + 1) (xs := m.cells) (bo := true) (by' := 16) Tryd.underlying31 c48 b48 z48 rfl (by omega) (by omega) (by rw [upd_at, if_pos rfl]) rfl (by omega) (by omega) (by omega)
      obtain ⟨A', c', e'⟩ := hg.val
      obtain ⟨A2, c2, e2⟩ := hg5.val
      subst e'
      subst e2
      dsimp only [Ln.cells] at ha hg5 hfr
      have hE : eff (upd h2 (n' + 1) ⟨[.int .i64 m.n, .int .i64 m.l], 48, 0, true⟩) E (n + 2) = some ⟨T.wcells ++ [.slice A' i.toNat c'], 33, 0, true⟩ := by rw [hfr _ (by omega), upd_at, if_neg (by omega)]; exact hs3
      have hE0 : ∀ L, L < n + 2 → eff (upd h2 (n' + 1) ⟨[.int .i64 m.n, .int .i64 m.l], 48, 0, true⟩) E L = h1 L := fun L hL => by rw [hfr _ (by omega), upd_at, if_neg (by omega), hk2 _ (by omega)]; exact hsame L hL
      generalize hh4 : eff _ E = h4 at hE hE0 hg5
      refine Sat.reg (by kernel_rfl) ?_
      simp -dsimp [t3, hs3, hm2, ne2 (show n + 2 < n' by omega), ne2 (show n + 2 < n' + 1 by omega), ne2 (show n' < n' + 1 by omega), ha, hh4, hE, -eff, -allocs, allocs_at]
      generalize allocs (n' + 2) E = n5 at hal hal2 hg5 ⊢
      have nE : ¬ n + 2 = n5 := by omega
      have W : IntKind.i64.wrap (i + 1) = i + 1 := wrap_in (by omega) (by omega)
      refine Sat.reg (by kernel_rfl) ?_
      simp -dsimp [t2, t3, t10, t11, t12, W, nE]
      refine ⟨i + 1, ⟨rfl, by omega, fun L hL => by rw [if_neg (by omega)]; exact hE0 L hL, by omega, by omega, ?_⟩, by omega⟩
      rw [htk, lnCells_append, show (i + 1).toNat = i.toNat + 1 by omega, show lnCells [m] = m.cells by simp [lnCells]]
      exact hg5.frame (fun L h1 h2 => by rw [upd_at, if_neg (by omega)]) (Nat.le_refl _)
    · have hc : ¬ i < T.ls.length := by simpa using hc
      have ei : i = T.ls.length := by omega
      subst ei
      rw [show (T.ls.length : Int).toNat = T.ls.length by omega, List.take_length] at hg
      obtain ⟨A', c', e'⟩ := hg.val
      subst e'
      refine Sat.exit ?_
      simp -dsimp
      refine Sat.sq ?_
      refine Sat.reg (by kernel_rfl) ?_
      simp -dsimp [t2, t3, hs2, hsame (n + 1) (by omega), hb1, ne2 (show n + 1 < n + 2 by omega), ne2 (show n + 1 < n' by omega)]
      refine Sat.ret ?_
      try simp -dsimp only [thenH_ret, blockA_ret, thenA_ret]
      refine RetQ.ret (r := T.v (.slice A' T.ls.length c')) ?_ ⟨by omega, fun L hL => by rw [upd_at, if_neg (by omega), hsame L (by omega)]; exact hk L hL, _, rfl, (hg.frame (fun L h1 h2 => by rw [upd_at, if_neg (by omega)]) (Nat.le_refl _)).lo (by omega)⟩
      simp [t2]
theorem w_ltheirs {h : Heap} {s : Value} {T : Tb} (hr : RD h 2 s (lnCells T.ls) T.ls.length) (few : T.ls.length ≤ 1000000000000) (n : Nat) (o : Bool) :
    Dm.Spec Tryd.prog 10 [T.v s] h n fun r h' n' => r = T.v (gcv n 2 T.ls.length) ∧ h' = applyU h (gcu n 48 (lnCells T.ls) T.ls.length o) ∧ n' = n + 1 :=
  Spec.gc (F := fun s => T.v s) (carries_tab T) (lnCells_closed _) (w_ltheirs_raw hr few n) o

end Go.Proofs.YtocbmekcokenoaaDoor
/- Walks, part B5. -/
set_option maxRecDepth 100000
set_option maxHeartbeats 4000000
set_option linter.unusedSimpArgs false
set_option linter.unusedVariables false
namespace Go.Proofs.YtocbmekcokenoaaDoor
open Go Go.Dm
attribute [local simp ↓] RunS_nil RunS_op RunS_guard RunT_nil RunT_op RunT_guard opS_call opD_call opS_move opD_move opS_assign opD_assign opS_pick opD_pick opS_nilCheck opD_nilCheck opS_fieldAddr opD_fieldAddr opS_indexAddr opD_indexAddr opS_load opD_load opS_store opD_store opS_alloc opD_alloc opS_box opD_box opS_build opD_build opS_buildSlice opD_buildSlice opS_field opD_field opS_extract opD_extract opS_makeFunc opD_makeFunc opS_slice opD_slice opS_binOp opD_binOp opS_unOp opD_unOp opS_convert opD_convert opS_index opD_index opS_len opD_len opS_append opD_append opS_max opD_max opS_min opD_min opS_makeSlice opD_makeSlice opS_makeInterface opD_makeInterface opS_copy opD_copy opS_data opD_data opS_string opD_string opS_cap opD_cap obind_some obind_none thenH_normal thenH_ret thenH_exit blockA_normal blockA_ret blockA_exit thenA_normal thenA_ret thenA_exit dstAt_mk dstL_zero dstL_succ
attribute [local simp] undef wantG_bool wantG_undef findO_some calleeS find putA ev closed3 closed2 closed1 closed0 pickA orE_some orE_none binF binXO binX binB strX unF convF convX convB mxF eqNilA fastBin fastUn fastConv intBin argEnv resultsA resultsL resultA notTuple allocs eff
  loadO storeO allocO boxO sliceO sliceX indexO indexXO indexX indexB lenO lenS capX ifaceO indexAddrA loadA storeA newA isAggT nilCheckA lenA evAll evParts aadd gen upd_at upd_upd Value.cells mxV Pairs apart readsS readB labOf putAt fieldA partA extractA makeFuncA evOpt boundOf sliceA isV0 Nat.add_assoc
attribute [local simp] bu23_z bu23_0_1_2 bu27_z bu27_0_1 bu27_0 bu33_z bu33_0 bu48_0_1 bu61_0_1 bs25_0_z bs25_1_0 bs31_0_z bs31_1_0 bs74_1_0 bs82_3_0_1_2
attribute [local simp ↓] eql23 neq23 eql48 neq48 eql61 neq61 eql24 neq24
attribute [local simp] fa23_0 fa23_1 fa23_2 fa48_0 fa48_1 fa61_0 fa61_1 fa33_0 fa33_1 fa27_0 fa27_1
attribute [local simp] c2 b2 z2 c3 b3 z3 c4 b4 z4 c5 b5 z5 c9 b9 z9 c23 b23 z23 h23 g23 c24 b24 z24 c25 b25 z25 c27 b27 z27 h27 g27 c29 b29 z29 c31 b31 z31 c33 b33 z33 h33 g33 c48 b48 z48 h48 g48 c50 b50 z50 c58 b58 z58 c61 b61 z61 h61 g61 Tryd.underlying2 Tryd.underlying3 Tryd.underlying4 Tryd.underlying5 Tryd.underlying9 Tryd.underlying23 Tryd.underlying24 Tryd.underlying25 Tryd.underlying27 Tryd.underlying29 Tryd.underlying31 Tryd.underlying33 Tryd.underlying48 Tryd.underlying50 Tryd.underlying58 Tryd.underlying61
theorem w_lown_raw {h : Heap} {s : Value} {T : Tb} (hr : RD h 2 s (lnCells T.ls) T.ls.length) (few : T.ls.length ≤ 1000000000000) (n : Nat) :
    Dm.Spec Tryd.prog 16 [T.v s] h n (freshTab 61 T h n) := by
  refine Spec.body Tryd.func16 rfl (by kernel_rfl) Tryd.ntmps16 (by rw [Tryd.results16]) (Nat.le_of_ble_eq_true rfl) ?_
  refine Sat.lt fun hlt => ?_
  obtain ⟨Ad, cd, rfl⟩ := hr.len
  refine Sat.sq ?_
  refine Sat.reg (by kernel_rfl) ?_
  simp -dsimp
  refine Sat.sq ?_
  refine Sat.reg (by kernel_rfl) ?_
  simp -dsimp
  generalize hh1 : upd _ (n + 2) _ = h1
  have hk : ∀ L, L < n → h1 L = h L := fun L hL => by rw [← hh1]; simp only [upd_at]; rw [if_neg (by omega), if_neg (by omega), if_neg (by omega)]
  have hb0 : h1 n = some ⟨T.wcells ++ [.slice Ad T.ls.length cd], 33, 0, true⟩ := by rw [← hh1]; simp [upd_at]
  have hb1 : h1 (n + 1) = some ⟨[.int .i64 0, .int .i64 0, .int .i64 0, .int .i64 0, .int .i64 0, .int .i64 0, .int .i64 0, .int .i64 0, .int .i64 0, .int .i64 0, .int .i64 0, .int .i64 0, .int .i64 0, .int .i64 0, .int .i64 0, .int .i64 0, .int .i64 0, .int .i64 0, .slice none 0 0], 27, 0, true⟩ := by rw [← hh1]; simp [upd_at]
  have hb2 : h1 (n + 2) = some ⟨T.wcells ++ [.slice none 0 0], 27, 0, true⟩ := by rw [← hh1]; simp [upd_at]
  have hr1 : RD h1 2 _ (lnCells T.ls) T.ls.length := hr.mono fun L b hb => by rw [hk L (hlt _ _ hb)]; exact hb
  refine Sat.sq ?_
  refine Sat.sq ?_
  refine Sat.reg (by kernel_rfl) ?_
  simp -dsimp [hb0]
  refine Sat.block ?_
  refine Sat.loop (ι := Int) (fun i T' h' n' => find T' 2 = some (.pointer (some ⟨n + 1, 0, none⟩)) ∧ find T' 3 = some (.pointer (some ⟨n + 2, 0, none⟩)) ∧ find T' 10 = some (.slice Ad T.ls.length cd) ∧ find T' 11 = some (.int .i64 T.ls.length) ∧ find T' 12 = some (.int .i64 i) ∧ n + 3 ≤ n' ∧
    (∀ L, L < n + 2 → h' L = h1 L) ∧ 0 ≤ i ∧ i ≤ T.ls.length ∧ ∃ s', h' (n + 2) = some ⟨T.wcells ++ [s'], 27, 0, true⟩ ∧ GS h' 61 2 s' (lnCells (T.ls.take i.toNat)) i.toNat (n + 3) n') (fun i => (T.ls.length - i).toNat) 0 ?_ ?_
  · refine ⟨rfl, rfl, rfl, rfl, rfl, by omega, fun _ _ => rfl, by omega, by omega, _, hb2, ?_⟩
    simpa [lnCells] using GS.nil
  · rintro i T' h' n' ⟨t2, t3, t10, t11, t12, hnn, hsame, i0, i1, s', hs2, hg⟩
    refine Sat.sq ?_
    refine Sat.reg (by kernel_rfl) ?_
    simp -dsimp [t11, t12]
    refine Sat.sq ?_
    refine Sat.ite rfl (fun hc => ?_) (fun hc => ?_)
    · have hc : i < T.ls.length := by simpa using hc
      obtain ⟨B, o, sp, b, hB, ap⟩ := hr1.tln i0 hc
      have lB : B < n := by
        rcases Nat.lt_or_ge B n with hlt' | hge
        · exact hlt'
        · have := (hr.tln i0 hc); obtain ⟨B', o', sp', b', hB', ap'⟩ := this
          have e := ap.idx.symm.trans ap'.idx
          cases e; exact hlt _ _ hB'
      have hB' : h' B = some b := by rw [hsame B (by omega)]; exact hB
      have htk := take_ls i0 hc
      generalize T.ls[i.toNat]! = m at *
      refine Sat.skip ?_
      simp -dsimp
      refine Sat.sq ?_
      refine Sat.block ?_
      refine Sat.sq ?_
      refine Sat.reg (by kernel_rfl) ?_
      simp -dsimp [t10, t12, -indexAddrA, ap.idx, ↓ap.l, hB', ne2 (show B < n' by omega)]
      generalize hh2 : upd h' n' _ = h2
      have hm2 : h2 n' = some ⟨[.int .i64 m.n, .int .i64 m.l], 48, 0, true⟩ := by rw [← hh2]; simp [upd_at]
      have hk2 : ∀ L, L < n' → h2 L = h' L := fun L hL => by rw [← hh2, upd_at, if_neg (by omega)]
      have hs3 : h2 (n + 2) = some ⟨T.wcells ++ [s'], 27, 0, true⟩ := by rw [hk2 _ (by omega)]; exact hs2
      have hg2 : GS (upd h2 (n' + 1) ⟨[.int .i64 m.n, .int .i64 m.l], 61, 0, true⟩) 61 2 s' (lnCells (T.ls.take i.toNat)) i.toNat (n + 3) n' := hg.frame (fun L h1 h2 => by rw [upd_at, if_neg (by omega), hk2 _ h2]) (Nat.le_refl _)
      obtain ⟨s2, E, ha, hfr, hal, hal2, hg5⟩ := hg2.append (P := Tryd.prog) (t := 25) (L := n' + 2) (B := n' + 1) (xs := m.cells) (bo := true) (by' := 16) Tryd.underlying25 c61 b61 z61 rfl (by omega) (by omega) (by rw [upd_at, if_pos rfl]) rfl (by omega) (by omega) (by omega)
      obtain ⟨A', c', e'⟩ := hg.val
      obtain ⟨A2, c2, e2⟩ := hg5.val
      subst e'
      subst e2
      dsimp only [Ln.cells] at ha hg5 hfr
      have hE : eff (upd h2 (n' + 1) ⟨[.int .i64 m.n, .int .i64 m.l], 61, 0, true⟩) E (n + 2) = some ⟨T.wcells ++ [.slice A' i.toNat c'], 27, 0, true⟩ := by rw [hfr _ (by omega), upd_at, if_neg (by omega)]; exact hs3
      have hE0 : ∀ L, L < n + 2 → eff (upd h2 (n' + 1) ⟨[.int .i64 m.n, .int .i64 m.l], 61, 0, true⟩) E L = h1 L := fun L hL => by rw [hfr _ (by omega), upd_at, if_neg (by omega), hk2 _ (by omega)]; exact hsame L hL
      generalize hh4 : eff _ E = h4 at hE hE0 hg5
      refine Sat.reg (by kernel_rfl) ?_
      simp -dsimp [t3, hs3, hm2, ne2 (show n + 2 < n' by omega), ne2 (show n + 2 < n' + 1 by omega), ne2 (show n' < n' + 1 by omega), ha, hh4, hE, -eff, -allocs, allocs_at]
      generalize allocs (n' + 2) E = n5 at hal hal2 hg5 ⊢
      have nE : ¬ n + 2 = n5 := by omega
      have W : IntKind.i64.wrap (i + 1) = i + 1 := wrap_in (by omega) (by omega)
      refine Sat.reg (by kernel_rfl) ?_
      simp -dsimp [t2, t3, t10, t11, t12, W, nE]
      refine ⟨i + 1, ⟨rfl, by omega, fun L hL => by rw [if_neg (by omega)]; exact hE0 L hL, by omega, by omega, ?_⟩, by omega⟩
      rw [htk, lnCells_append, show (i + 1).toNat = i.toNat + 1 by omega, show lnCells [m] = m.cells by simp [lnCells]]
      exact hg5.frame (fun L h1 h2 => by rw [upd_at, if_neg (by omega)]) (Nat.le_refl _)
    · have hc : ¬ i < T.ls.length := by simpa using hc
      have ei : i = T.ls.length := by omega
      subst ei
      rw [show (T.ls.length : Int).toNat = T.ls.length by omega, List.take_length] at hg
      obtain ⟨A', c', e'⟩ := hg.val
      subst e'
      refine Sat.exit ?_
      simp -dsimp
      refine Sat.sq ?_
      refine Sat.reg (by kernel_rfl) ?_
      simp -dsimp [t2, t3, hs2, hsame (n + 1) (by omega), hb1, ne2 (show n + 1 < n + 2 by omega), ne2 (show n + 1 < n' by omega)]
      refine Sat.ret ?_
      try simp -dsimp only [thenH_ret, blockA_ret, thenA_ret]
      refine RetQ.ret (r := T.v (.slice A' T.ls.length c')) ?_ ⟨by omega, fun L hL => by rw [upd_at, if_neg (by omega), hsame L (by omega)]; exact hk L hL, _, rfl, (hg.frame (fun L h1 h2 => by rw [upd_at, if_neg (by omega)]) (Nat.le_refl _)).lo (by omega)⟩
      simp [t2]
theorem w_lown {h : Heap} {s : Value} {T : Tb} (hr : RD h 2 s (lnCells T.ls) T.ls.length) (few : T.ls.length ≤ 1000000000000) (n : Nat) (o : Bool) :
    Dm.Spec Tryd.prog 16 [T.v s] h n fun r h' n' => r = T.v (gcv n 2 T.ls.length) ∧ h' = applyU h (gcu n 61 (lnCells T.ls) T.ls.length o) ∧ n' = n + 1 :=
  Spec.gc (F := fun s => T.v s) (carries_tab T) (lnCells_closed _) (w_lown_raw hr few n) o
theorem gc_rd {h : Heap} {n k m : Nat} {e : TypeId} {cells : List Value} (hl : cells.length = m * k) (o : Bool) : RD (applyU h (gcu n e cells m o)) k (gcv n k m) cells m := by
  unfold gcv gcu
  by_cases hm : m = 0
  · subst hm
    rw [if_pos rfl, if_pos rfl]
    have : cells = [] := List.eq_nil_of_length_eq_zero (by omega)
    subst this; exact .nil
  · rw [if_neg hm, if_neg hm]
    refine ⟨hl, _, _, rfl, (fun h => nomatch h), fun _ => ⟨_, ⟨cells, e, 0, o⟩, rfl, by simp [applyU, upd_at], rfl, by simp only; omega, by simp [← hl]⟩⟩
theorem gc_old {h : Heap} {n m : Nat} {e : TypeId} {cells : List Value} {o : Bool} {L : Nat} (hL : L < n) : applyU h (gcu n e cells m o) L = h L := by
  unfold gcu
  by_cases hm : m = 0
  · rw [if_pos hm]; rfl
  · rw [if_neg hm]; simp [applyU, upd_at]; omega
theorem gc_lt {n m : Nat} {e : TypeId} {cells : List Value} {o : Bool} : ∀ u ∈ gcu n e cells m o, u.1 < n + 1 := by
  intro u hu
  unfold gcu at hu
  split at hu
  · cases hu
  · simp at hu; subst hu; exact Nat.lt_succ_self n
theorem gc_at {n m : Nat} {e : TypeId} {cells : List Value} {o : Bool} : ∀ u ∈ gcu n e cells m o, u.1 = n := by
  intro u hu
  unfold gcu at hu
  split at hu
  · cases hu
  · simp at hu; subst hu; rfl
theorem RD.reads {h : Heap} {k m : Nat} {v : Value} {cells : List Value} (hr : RD h k v cells m) {g : FuncId} {args : List Value} {r : Value}
    (hs : ∀ h2 n2, RD h2 k v cells m → Dm.Spec Tryd.prog g args h2 n2 fun r' h' n' => r' = r ∧ h' = h2 ∧ n' = n2) : ∃ F : List Nat, (∀ L ∈ F, (h L).isSome = true) ∧ ∀ h2 n2, (∀ L ∈ F, h2 L = h L) → Dm.Spec Tryd.prog g args h2 n2 fun r' h' n' => r' = r ∧ h' = h2 ∧ n' = n2 := by
  obtain ⟨F, f1, _, f2⟩ := hr.agree
  exact ⟨F, f1, fun h2 n2 hh => hs h2 n2 (f2 h2 hh)⟩

end Go.Proofs.YtocbmekcokenoaaDoor
/- Walks, part L1. -/
set_option maxRecDepth 100000
set_option maxHeartbeats 4000000
set_option linter.unusedSimpArgs false
set_option linter.unusedVariables false
namespace Go.Proofs.YtocbmekcokenoaaDoor
open Go Go.Dm
attribute [local simp ↓] RunS_nil RunS_op RunS_guard RunT_nil RunT_op RunT_guard opS_call opD_call opS_move opD_move opS_assign opD_assign opS_pick opD_pick opS_nilCheck opD_nilCheck opS_fieldAddr opD_fieldAddr opS_indexAddr opD_indexAddr opS_load opD_load opS_store opD_store opS_alloc opD_alloc opS_box opD_box opS_build opD_build opS_buildSlice opD_buildSlice opS_field opD_field opS_extract opD_extract opS_makeFunc opD_makeFunc opS_slice opD_slice opS_binOp opD_binOp opS_unOp opD_unOp opS_convert opD_convert opS_index opD_index opS_len opD_len opS_append opD_append opS_max opD_max opS_min opD_min opS_makeSlice opD_makeSlice opS_makeInterface opD_makeInterface opS_copy opD_copy opS_data opD_data opS_string opD_string opS_cap opD_cap obind_some obind_none thenH_normal thenH_ret thenH_exit blockA_normal blockA_ret blockA_exit thenA_normal thenA_ret thenA_exit dstAt_mk dstL_zero dstL_succ
attribute [local simp] undef wantG_bool wantG_undef findO_some calleeS find putA ev closed3 closed2 closed1 closed0 pickA orE_some orE_none binF binXO binX binB strX unF convF convX convB mxF eqNilA fastBin fastUn fastConv intBin argEnv resultsA resultsL resultA notTuple allocs eff
  loadO storeO allocO boxO sliceO sliceX indexO indexXO indexX indexB lenO lenS capX ifaceO indexAddrA loadA storeA newA isAggT nilCheckA lenA evAll evParts aadd gen upd_at upd_upd Value.cells mxV Pairs apart readsS readB labOf putAt fieldA partA extractA makeFuncA evOpt boundOf sliceA isV0 Nat.add_assoc
attribute [local simp] bu23_z bu23_0_1_2 bu27_z bu27_0_1 bu27_0 bu33_z bu33_0 bu48_0_1 bu61_0_1 bs25_0_z bs25_1_0 bs31_0_z bs31_1_0 bs74_1_0 bs82_3_0_1_2
attribute [local simp ↓] eql23 neq23 eql48 neq48 eql61 neq61 eql24 neq24
attribute [local simp] fa23_0 fa23_1 fa23_2 fa48_0 fa48_1 fa61_0 fa61_1 fa33_0 fa33_1 fa27_0 fa27_1
attribute [local simp] c2 b2 z2 c3 b3 z3 c4 b4 z4 c5 b5 z5 c9 b9 z9 c23 b23 z23 h23 g23 c24 b24 z24 c25 b25 z25 c27 b27 z27 h27 g27 c29 b29 z29 c31 b31 z31 c33 b33 z33 h33 g33 c48 b48 z48 h48 g48 c50 b50 z50 c58 b58 z58 c61 b61 z61 h61 g61 Tryd.underlying2 Tryd.underlying3 Tryd.underlying4 Tryd.underlying5 Tryd.underlying9 Tryd.underlying23 Tryd.underlying24 Tryd.underlying25 Tryd.underlying27 Tryd.underlying29 Tryd.underlying31 Tryd.underlying33 Tryd.underlying48 Tryd.underlying50 Tryd.underlying58 Tryd.underlying61
abbrev u_lTableValid_3 : List (Nat × Nat) := [(1, 3), (2, 3)]
theorem gcv_val (n k m : Nat) : ∃ A c, gcv n k m = .slice A m c := by
  unfold gcv; split
  · rename_i h; subst h; exact ⟨_, _, rfl⟩
  · exact ⟨_, _, rfl⟩
theorem w_lTableValid {h : Heap} {s : Value} {T : Tb} (hr : RD h 2 s (lnCells T.ls) T.ls.length) (n : Nat) :
    Dm.Spec Tryd.prog 3 [T.v s] h n fun r' h' n' => r' = .bool true ∧ h' = h ∧ n' = n := by
  refine pureAt Tryd.func3 rfl (by kernel_rfl) Tryd.ntmps3 (by rw [Tryd.results3]) (Nat.le_of_ble_eq_true rfl) ?_
  refine Sat.lt fun hlt => ?_
  obtain ⟨Ad, cd, rfl⟩ := hr.len
  refine Sat.sq ?_
  refine Sat.reg (by kernel_rfl) ?_
  simp -dsimp
  generalize hh1 : upd h n _ = h1
  have hr1 : RD h1 2 _ (lnCells T.ls) T.ls.length := hh1 ▸ hr.upd hlt (Nat.le_refl n) _
  have hn : h1 n = some ⟨T.wcells ++ [.slice Ad T.ls.length cd], 27, 0, true⟩ := by rw [← hh1]; simp [upd_at]
  have hk : ∀ L, L < n → h1 L = h L := fun L hL => by rw [← hh1, upd_at, if_neg (by omega)]
  refine Sat.sq ?_
  refine Sat.sq ?_
  refine Sat.reg (by kernel_rfl) ?_
  simp -dsimp
  refine w8.useH ?_
  simp -dsimp [hn]
  refine Sat.ite rfl (fun hc => ?_) (fun hc => ?_)
  · refine Sat.sq ?_
    refine Sat.reg (by kernel_rfl) ?_
    simp -dsimp
    refine w8.useH ?_
    simp -dsimp
    exact Sat.ret (PureQ.ret rfl hk rfl)
  · have few : T.ls.length ≤ 40 := by
      have : ¬ (40 : Int) < T.ls.length := by simpa using hc
      omega
    refine Sat.skip ?_
    simp -dsimp
    refine Sat.sq ?_
    refine Sat.drw u_lTableValid_3 mixed (by kernel_rfl) (by kernel_rfl) (by kernel_rfl) (by kernel_rfl) ?_
    simp -dsimp [hn]
    refine callD.heavy _ _ _ (by omega) gc_lt (w_ltheirs hr1 (by omega) (n + 1) false) ?_
    obtain ⟨A2, c2, e2⟩ := gcv_val (n + 1) 2 T.ls.length
    have hrt := gc_rd (h := h1) (n := n + 1) (e := 48) (lnCells_length T.ls) false
    obtain ⟨F1, f1, g1⟩ := hrt.reads (g := 9) (args := [T.v (gcv (n + 1) 2 T.ls.length)]) (r := .int .i64 T.code) (fun h2 n2 hr2 => w_tValid hr2 (by omega) n2)
    rw [e2] at g1 hrt ⊢
    simp -dsimp
    refine callD.reads _ F1 g1 ?_
    have hn2 : applyU h1 (gcu (n + 1) 48 (lnCells T.ls) T.ls.length false) n = some ⟨T.wcells ++ [.slice Ad T.ls.length cd], 27, 0, true⟩ := by rw [gc_old (by omega)]; exact hn
    have hr2 : RD (applyU h1 (gcu (n + 1) 48 (lnCells T.ls) T.ls.length false)) 2 (.slice Ad T.ls.length cd) (lnCells T.ls) T.ls.length := by
      refine hr.mono fun L b hb => ?_
      have := hlt L b hb
      rw [gc_old (by omega), hk L this]; exact hb
    obtain ⟨F2, f2, g2⟩ := hr2.reads (g := 11) (args := [T.v (.slice Ad T.ls.length cd)]) (r := .int .i64 T.code) (fun h2 n2 hr2 => w_rValid hr2 (by omega) n2)
    simp -dsimp [hn2]
    refine callD.reads _ F2 g2 ?_
    simp -dsimp
    refine ⟨?_, ?_⟩
    · intro a b hab
      have := gc_at _ hab
      omega
    · exact Sat.ret (PureQ.ret rfl (fun L hL => by rw [gc_old (by omega)]; exact hk L hL) (by simp))

end Go.Proofs.YtocbmekcokenoaaDoor
