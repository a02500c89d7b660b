/- Walks, part B1. -/
import Derived.Test.YtoinimkmoojcoaaG4
import Derived.Test.YtoinimkmoojcoaaG3
import Derived.Test.YtoinimkmoojcoaaG2
set_option maxRecDepth 100000
set_option maxHeartbeats 4000000
set_option linter.unusedSimpArgs false
set_option linter.unusedVariables false
namespace Go.Proofs.Ytoinimkmoojcoaa
open Go Go.Dm
attribute [local simp ↓] RunS_nil RunS_op RunS_guard RunT_nil RunT_op RunT_guard opS_call opD_call opS_move opD_move opS_assign opD_assign opS_pick opD_pick opS_nilCheck opD_nilCheck opS_fieldAddr opD_fieldAddr opS_indexAddr opD_indexAddr opS_load opD_load opS_store opD_store opS_alloc opD_alloc opS_box opD_box opS_build opD_build opS_buildSlice opD_buildSlice opS_field opD_field opS_extract opD_extract opS_makeFunc opD_makeFunc opS_slice opD_slice opS_binOp opD_binOp opS_unOp opD_unOp opS_convert opD_convert opS_index opD_index opS_len opD_len opS_append opD_append opS_max opD_max opS_min opD_min obind_some obind_none thenH_normal thenH_ret thenH_exit blockA_normal blockA_ret blockA_exit thenA_normal thenA_ret thenA_exit dstAt_mk dstL_zero dstL_succ
attribute [local simp] undef wantG_bool wantG_undef findO_some calleeS find putA ev closed3 closed2 closed1 closed0 pickA binF unF convF mxF eqNilA fastBin fastUn fastConv intBin argEnv resultsA resultsL resultA notTuple allocs eff
  loadO storeO allocO boxO sliceO indexO indexAddrA loadA storeA newA isAggT nilCheckA lenA evAll evParts aadd gen upd_at upd_upd Value.cells mxV Pairs apart readsS labOf putAt fieldA partA extractA makeFuncA evOpt boundOf sliceA Nat.add_assoc
attribute [local simp] bu107_z bu107_0_1 bu25_0_1_2 bu36_z bu36_0_1 bu36_0_1_2 bu36_0 bu38_z bu38_0_1_2_3_4 bu38_0_1_3 bu38_0_1_3_4 bu38_1_2 bu38_1_2_3 bu52_0_1_10 bu81_0_1 bs22_0_z bs22_1_0 bs22_2_0_1 bs39_1_0 bs39_7_0_1_2_3_4_5_6 bs95_4_0_1_2_3
attribute [local simp ↓] eql107 neq107 eql36 neq36 eql38 neq38 eql25 neq25
attribute [local simp] fa25_0 fa25_1 fa25_2 fa36_0 fa36_1 fa36_2 fa38_0 fa38_1 fa38_2 fa38_3 fa38_4 fa107_0 fa107_1 fa81_0 fa81_1 fa81_2 fa81_3 fa81_4 fa81_5 fa81_6 fa81_7 fa81_8 fa81_9 fa81_10 fa52_0 fa52_1 fa52_2 fa52_3 fa52_4 fa52_5 fa52_6 fa52_7 fa52_8 fa52_9 fa52_10 fa52_11 fa52_12
attribute [local simp] c25 c38 c2 c3 c4 c36 c107 c30 z25 z38 z2 z3 z4 z36 z107 b38 b25 b107 h38 h25 h36 h107 g38 g25 g36 g107 Try.underlying25 Try.underlying38 Try.underlying2 Try.underlying3 Try.underlying4 Try.underlying36 Try.underlying22 Try.underlying39 Try.underlying29 Try.underlying81 Try.underlying107 Try.underlying30
attribute [local simp] mx mn
theorem u115 : Try.prog.underlying 115 = some (.float .f64) := by kernel_rfl
/-- The least number whose square is not below. -/
def lenS (s : Int) : Int := bis (fun m => decide (s ≤ m * m)) 27 0 40000000
theorem sq_mono {a b : Int} (h0 : 0 ≤ a) (h : a ≤ b) : a * a ≤ b * b := Int.mul_le_mul h h h0 (by omega)
theorem lenS_spec {s : Int} (h : s ≤ 1600000000000000) : 0 ≤ lenS s ∧ lenS s ≤ 40000000 ∧ s ≤ lenS s * lenS s ∧ (lenS s = 0 ∨ (lenS s - 1) * (lenS s - 1) < s) := by
  have hr := bis_range (p := fun m => decide (s ≤ m * m)) 27 0 40000000 (by omega)
  obtain ⟨h1, h2⟩ := bis_spec (p := fun m => decide (s ≤ m * m)) 27 0 40000000 (by omega) (by show (40000000 : Int) - 0 < 134217728; omega) (by simpa using h)
  change 0 ≤ lenS s ∧ lenS s ≤ 40000000 at hr
  change decide (s ≤ lenS s * lenS s) = true at h1
  change 0 < lenS s → decide (s ≤ (lenS s - 1) * (lenS s - 1)) = false at h2
  refine ⟨hr.1, hr.2, by simpa using h1, ?_⟩
  by_cases h0 : lenS s = 0
  · exact .inl h0
  · exact .inr (by simpa using h2 (by omega))
theorem lenS_unique {s n : Int} (h : s ≤ 1600000000000000) (h0 : 0 ≤ n) (h1 : s ≤ n * n) (h2 : n = 0 ∨ (n - 1) * (n - 1) < s) : n = lenS s := by
  obtain ⟨a, b, c, d⟩ := lenS_spec h
  generalize lenS s = m at *
  rcases Int.lt_trichotomy n m with hl | he | hg
  · exfalso
    rcases d with d | d
    · omega
    · have := sq_mono h0 (show n ≤ m - 1 by omega); omega
  · exact he
  · exfalso
    rcases h2 with h2 | h2
    · omega
    · have := sq_mono a (show m ≤ n - 1 by omega); omega
theorem w84 (s : Nat) (hs : s < 2 ^ 51) : ∃ r z, floatToIntVal .f64 r .i64 = some z ∧ 0 ≤ z ∧ z ≤ 134217728 ∧ Pure Try.prog 84 [.float .f64 (floatOfInt .f64 s)] (.float .f64 r) := by
  obtain ⟨r, h1, z, h2, h3, h4⟩ := sqrt_word s hs
  have hx : floatOfInt .f64 s = Ieee.double.nearest false s 0 := by
    simp only [floatOfInt, FloatKind.nearest, FloatKind.encode, FloatKind.format, write_number]
    congr 1
  rw [hx]
  have w89 : Pure Try.prog 89 [.float .f64 (Ieee.double.nearest false s 0)] (.float .f64 r) := by
    refine Pure.extern (e := Extern.MathSqrt.sqrt) Try.func89 rfl rfl rfl rfl rfl rfl fun w => ?_
    show ((match Ieee.double.sqrt (Ieee.double.nearest false s 0) with | some r => (pure (.float .f64 r) : Sem Value) | none => _).run _ w) = _
    rw [h1]; rfl
  refine ⟨r, z, ?_, h3, h4, ?_⟩
  · unfold floatToIntVal
    rw [show FloatKind.f64.decode r = Ieee.double.read r from rfl, h2]
    have hb : IntKind.i64.min ≤ z ∧ z ≤ IntKind.i64.max := ⟨by show (-9223372036854775808 : Int) ≤ z; omega, by show z ≤ (9223372036854775807 : Int); omega⟩
    exact if_pos hb
  · refine Pure.of_body Try.func84 rfl (by kernel_rfl) Try.ntmps84 (by rw [Try.results84]) (Nat.le_of_ble_eq_true rfl) fun h n => ?_
    refine Sat.sq ?_
    refine Sat.reg (by kernel_rfl) ?_
    simp -dsimp
    refine Sat.sq ?_
    refine Sat.reg (by kernel_rfl) ?_
    simp -dsimp
    refine (w89 ..).useH ?_
    simp -dsimp
    refine Sat.ret (PureQ.ret rfl keep_refl ?_)
    simp -dsimp
structure Mot where
  fx : Int
  fy : Int
  fz : Int
  tx : Int
  ty : Int
  tz : Int
  rate : Int
  tool : Int
  block : Int
deriving DecidableEq
def Mot.cells (m : Mot) : List Value := [.int .i64 m.fx, .int .i64 m.fy, .int .i64 m.fz, .int .i64 m.tx, .int .i64 m.ty, .int .i64 m.tz, .int .i64 m.rate, .int .i64 m.tool, .int .i64 m.block]
abbrev motV (fx fy fz tx ty tz rate tool block : Int) : Value := .agg #[.int .i64 fx, .int .i64 fy, .int .i64 fz, .int .i64 tx, .int .i64 ty, .int .i64 tz, .int .i64 rate, .int .i64 tool, .int .i64 block]
def inR (a : Int) : Prop := -10000000 ≤ a ∧ a ≤ 10000000
def Mot.near (m : Mot) : Prop := (inR m.fx ∧ inR m.fy ∧ inR m.fz) ∧ inR m.tx ∧ inR m.ty ∧ inR m.tz
def Mot.sum (m : Mot) : Int := (m.tx - m.fx) * (m.tx - m.fx) + (m.ty - m.fy) * (m.ty - m.fy) + (m.tz - m.fz) * (m.tz - m.fz)
def Mot.len (m : Mot) : Int := lenS m.sum
theorem sq_in {a b : Int} (ha : inR a) (hb : inR b) : 0 ≤ (b - a) * (b - a) ∧ (b - a) * (b - a) ≤ 400000000000000 := by
  unfold inR at *
  rcases Int.le_total 0 (b - a) with h | h
  · have h2 : (b - a) * (b - a) ≤ 20000000 * 20000000 := Int.mul_le_mul (by omega) (by omega) h (by omega)
    exact ⟨Int.mul_nonneg h h, by omega⟩
  · rw [← Int.neg_mul_neg]
    have h2 : -(b - a) * -(b - a) ≤ 20000000 * 20000000 := Int.mul_le_mul (by omega) (by omega) (by omega) (by omega)
    exact ⟨Int.mul_nonneg (by omega) (by omega), by omega⟩
theorem Mot.sum_in {m : Mot} (h : m.near) : 0 ≤ m.sum ∧ m.sum ≤ 1200000000000000 := by
  have h1 := sq_in h.1.1 h.2.1
  have h2 := sq_in h.1.2.1 h.2.2.1
  have h3 := sq_in h.1.2.2 h.2.2.2
  unfold Mot.sum; omega
abbrev u68_1 : List (Nat × Nat) := []
theorem w68 (m : Mot) (hm : m.near) : Pure Try.prog 68 [motV m.fx m.fy m.fz m.tx m.ty m.tz m.rate m.tool m.block] (.int .i64 m.len) := by
  refine Pure.of_body Try.func68 rfl (by kernel_rfl) Try.ntmps68 (by rw [Try.results68]) (Nat.le_of_ble_eq_true rfl) fun h n => ?_
  obtain ⟨s0, s1⟩ := Mot.sum_in hm
  obtain ⟨q1, q1'⟩ := sq_in hm.1.1 hm.2.1
  obtain ⟨q2, q2'⟩ := sq_in hm.1.2.1 hm.2.2.1
  obtain ⟨q3, q3'⟩ := sq_in hm.1.2.2 hm.2.2.2
  have es : m.sum = (m.tx - m.fx) * (m.tx - m.fx) + (m.ty - m.fy) * (m.ty - m.fy) + (m.tz - m.fz) * (m.tz - m.fz) := rfl
  have hm' := hm
  simp only [Mot.near, inR] at hm'
  refine Sat.sq ?_
  refine Sat.reg (by kernel_rfl) ?_
  simp -dsimp
  refine Sat.sq ?_
  refine Sat.drw u68_1 mixed (by kernel_rfl) (by kernel_rfl) (by kernel_rfl) (by kernel_rfl) ?_
  simp -dsimp
  refine Sat.sq ?_
  refine Sat.reg (by kernel_rfl) ?_
  simp -dsimp
  simp -dsimp (disch := omega) only [wrap_in]
  rw [← es]
  refine Sat.sq ?_
  refine Sat.reg (by kernel_rfl) ?_
  obtain ⟨s, hs⟩ : ∃ s : Nat, m.sum = s := ⟨m.sum.toNat, by omega⟩
  obtain ⟨r, z, hz, z0, z1, w84'⟩ := w84 s (by show s < 2251799813685248; omega)
  simp -dsimp [u115, hs]
  refine w84'.useH ?_
  simp -dsimp [u115, hz]
  refine Sat.join (fun T h' n' => find T 6 = some (.int .i64 s) ∧ (∀ L, L < n → h' L = h L) ∧ ∃ i : Int, find T 7 = some (.int .i64 i) ∧ 0 ≤ i ∧ i ≤ 134217728 ∧ (i = 0 ∨ (i - 1) * (i - 1) < s)) ?_ ?_
  · refine Sat.block ?_
    refine Sat.loop (ι := Int) (fun i T h' n' => find T 6 = some (.int .i64 s) ∧ find T 7 = some (.int .i64 i) ∧ (∀ L, L < n → h' L = h L) ∧ 0 ≤ i ∧ i ≤ 134217728) (fun i => i.toNat) z ?_ ?_
    · simp -dsimp
      exact ⟨fun L hL e => by omega, z0, z1⟩
    · rintro i T h' n' ⟨t6, t7, hk, i0, i1⟩
      have b1 : 0 < i → 0 ≤ (i - 1) * (i - 1) ∧ (i - 1) * (i - 1) ≤ 134217728 * 134217728 := fun hi => ⟨Int.mul_nonneg (by omega) (by omega), Int.mul_le_mul (by omega) (by omega) (by omega) (by omega)⟩
      refine Sat.sq ?_
      refine Sat.sq ?_
      refine Sat.reg (by kernel_rfl) ?_
      by_cases hi : 0 < i
      · have b1 := b1 hi
        simp -dsimp [t6, t7, hi]
        simp -dsimp (disch := omega) only [wrap_in]
        refine Sat.ite rfl (fun hc => ?_) (fun hc => ?_)
        · have hc : (s : Int) ≤ (i - 1) * (i - 1) := by simpa using hc
          refine Sat.skip ?_
          simp -dsimp
          refine Sat.block ?_
          refine Sat.reg (by kernel_rfl) ?_
          simp -dsimp [t6, t7]
          simp -dsimp (disch := omega) only [wrap_in]
          exact ⟨i - 1, ⟨rfl, hk, by omega, by omega⟩, by omega⟩
        · have hc : ¬ (s : Int) ≤ (i - 1) * (i - 1) := by simpa using hc
          refine Sat.exit ?_
          simp -dsimp
          exact ⟨t6, hk, i, t7, i0, i1, .inr (by omega)⟩
      · have : i = 0 := by omega
        subst this
        simp -dsimp [t6, t7]
        refine Sat.cond rfl ?_
        refine Sat.exit ?_
        simp -dsimp
        exact ⟨t6, hk, 0, t7, i0, i1, .inl rfl⟩
  · rintro T h1 n1 ⟨t6, hk, i, t7, i0, i1, ih⟩
    refine Sat.sq ?_
    refine Sat.block ?_
    refine Sat.loop (ι := Int) (fun i T h' n' => find T 6 = some (.int .i64 s) ∧ find T 7 = some (.int .i64 i) ∧ (∀ L, L < n → h' L = h L) ∧ 0 ≤ i ∧ i ≤ 134217728 ∧ (i = 0 ∨ (i - 1) * (i - 1) < s)) (fun i => (134217728 - i).toNat) i ?_ ?_
    · exact ⟨t6, t7, hk, i0, i1, ih⟩
    · rintro i T h' n' ⟨t6, t7, hk, i0, i1, ih⟩
      have b1 : 0 ≤ i * i ∧ i * i ≤ 134217728 * 134217728 := ⟨Int.mul_nonneg (by omega) (by omega), Int.mul_le_mul (by omega) (by omega) (by omega) (by omega)⟩
      refine Sat.sq ?_
      refine Sat.sq ?_
      refine Sat.reg (by kernel_rfl) ?_
      simp -dsimp [t6, t7]
      simp -dsimp (disch := omega) only [wrap_in]
      refine Sat.ite rfl (fun hc => ?_) (fun hc => ?_)
      · have hc : i * i < (s : Int) := by simpa using hc
        have hi : i < 134217728 := by
          rcases Int.lt_or_le i 134217728 with h | h
          · exact h
          · exfalso; have : i = 134217728 := by omega
            subst this; omega
        refine Sat.skip ?_
        simp -dsimp
        refine Sat.block ?_
        refine Sat.reg (by kernel_rfl) ?_
        simp -dsimp [t6, t7]
        simp -dsimp (disch := omega) only [wrap_in]
        exact ⟨i + 1, ⟨rfl, hk, by omega, by omega, .inr (by rw [show i + 1 - 1 = i by omega]; exact hc)⟩, by omega⟩
      · have hc : ¬ i * i < (s : Int) := by simpa using hc
        refine Sat.exit ?_
        simp -dsimp
        refine Sat.sq ?_
        refine Sat.reg (by kernel_rfl) ?_
        simp -dsimp [t7]
        refine Sat.ret (PureQ.ret rfl hk ?_)
        have e : i = m.len := lenS_unique (by omega) i0 (by omega) (by rw [hs]; exact ih)
        simp [e]

end Go.Proofs.Ytoinimkmoojcoaa
/- Walks, part B2. -/
set_option maxRecDepth 100000
set_option maxHeartbeats 4000000
set_option linter.unusedSimpArgs false
set_option linter.unusedVariables false
namespace Go.Proofs.Ytoinimkmoojcoaa
open Go Go.Dm
attribute [local simp ↓] RunS_nil RunS_op RunS_guard RunT_nil RunT_op RunT_guard opS_call opD_call opS_move opD_move opS_assign opD_assign opS_pick opD_pick opS_nilCheck opD_nilCheck opS_fieldAddr opD_fieldAddr opS_indexAddr opD_indexAddr opS_load opD_load opS_store opD_store opS_alloc opD_alloc opS_box opD_box opS_build opD_build opS_buildSlice opD_buildSlice opS_field opD_field opS_extract opD_extract opS_makeFunc opD_makeFunc opS_slice opD_slice opS_binOp opD_binOp opS_unOp opD_unOp opS_convert opD_convert opS_index opD_index opS_len opD_len opS_append opD_append opS_max opD_max opS_min opD_min obind_some obind_none thenH_normal thenH_ret thenH_exit blockA_normal blockA_ret blockA_exit thenA_normal thenA_ret thenA_exit dstAt_mk dstL_zero dstL_succ
attribute [local simp] undef wantG_bool wantG_undef findO_some calleeS find putA ev closed3 closed2 closed1 closed0 pickA binF unF convF mxF eqNilA fastBin fastUn fastConv intBin argEnv resultsA resultsL resultA notTuple allocs eff
  loadO storeO allocO boxO sliceO indexO indexAddrA loadA storeA newA isAggT nilCheckA lenA evAll evParts aadd gen upd_at upd_upd Value.cells mxV Pairs apart readsS labOf putAt fieldA partA extractA makeFuncA evOpt boundOf sliceA Nat.add_assoc
attribute [local simp] bu107_z bu107_0_1 bu25_0_1_2 bu36_z bu36_0_1 bu36_0_1_2 bu36_0 bu38_z bu38_0_1_2_3_4 bu38_0_1_3 bu38_0_1_3_4 bu38_1_2 bu38_1_2_3 bu52_0_1_10 bu81_0_1 bs22_0_z bs22_1_0 bs22_2_0_1 bs39_1_0 bs39_7_0_1_2_3_4_5_6 bs95_4_0_1_2_3
attribute [local simp ↓] eql107 neq107 eql36 neq36 eql38 neq38 eql25 neq25
attribute [local simp] fa25_0 fa25_1 fa25_2 fa36_0 fa36_1 fa36_2 fa38_0 fa38_1 fa38_2 fa38_3 fa38_4 fa107_0 fa107_1 fa81_0 fa81_1 fa81_2 fa81_3 fa81_4 fa81_5 fa81_6 fa81_7 fa81_8 fa81_9 fa81_10 fa52_0 fa52_1 fa52_2 fa52_3 fa52_4 fa52_5 fa52_6 fa52_7 fa52_8 fa52_9 fa52_10 fa52_11 fa52_12
attribute [local simp] c25 c38 c2 c3 c4 c36 c107 c30 z25 z38 z2 z3 z4 z36 z107 b38 b25 b107 h38 h25 h36 h107 g38 g25 g36 g107 Try.underlying25 Try.underlying38 Try.underlying2 Try.underlying3 Try.underlying4 Try.underlying36 Try.underlying22 Try.underlying39 Try.underlying29 Try.underlying81 Try.underlying107 Try.underlying30
attribute [local simp] mx mn
instance : Inhabited Mot := ⟨⟨0, 0, 0, 0, 0, 0, 0, 0, 0⟩⟩
/-- A slice that can be read and that nobody changes. -/
def RO (h : Heap) (k : Nat) (s : Value) (cells : List Value) (m : Nat) : Prop :=
  cells.length = m * k ∧ ∃ A c, s = .slice A m c ∧ (A = none → m = 0 ∧ c = 0) ∧ (0 < m → ∃ a b, A = some a ∧ h a.block = some b ∧ b.own = false ∧ b.gen = gen a ∧ a.off + m * k ≤ b.cells.length ∧ (b.cells.drop a.off).take (m * k) = cells)
theorem RO.len {h : Heap} {k m : Nat} {s : Value} {cells : List Value} (hr : RO h k s cells m) : ∃ A c, s = .slice A m c := by
  obtain ⟨_, A, c, h2, _⟩ := hr; exact ⟨A, c, h2⟩
/-- What a step may not touch: blocks that nobody changes. -/
def Fz (h h' : Heap) : Prop := ∀ L b, h L = some b → b.own = false → h' L = some b
theorem Fz.refl (h : Heap) : Fz h h := fun _ _ x _ => x
theorem Fz.trans {h1 h2 h3 : Heap} (a : Fz h1 h2) (b : Fz h2 h3) : Fz h1 h3 := fun L bl x y => b L bl (a L bl x y) y
theorem RO.fz {h h' : Heap} {k m : Nat} {s : Value} {cells : List Value} (hr : RO h k s cells m) (hf : Fz h h') : RO h' k s cells m := by
  obtain ⟨h1, A, c, h2, h3, h4⟩ := hr
  refine ⟨h1, A, c, h2, h3, fun hm => ?_⟩
  obtain ⟨a, b, x1, x2, x3, x4⟩ := h4 hm
  exact ⟨a, b, x1, hf _ _ x2 x3, x3, x4⟩
theorem RO.nil {h : Heap} {k : Nat} : RO h k (.slice none 0 0) [] 0 := ⟨by simp, none, 0, rfl, fun _ => ⟨rfl, rfl⟩, fun h => absurd h (by omega)⟩
theorem RO.at {h : Heap} {k m : Nat} {s : Value} {cells : List Value} (hr : RO h k s cells m) {i : Nat} (hi : i < m) :
    ∃ a c b, s = .slice (some a) m c ∧ h a.block = some b ∧ b.own = false ∧ b.gen = gen a ∧ a.off + i * k + k ≤ b.cells.length ∧ (b.cells.drop (a.off + i * k)).take k = (cells.drop (i * k)).take k := by
  obtain ⟨h1, A, c, h2, h3, h4⟩ := hr
  obtain ⟨a, b, rfl, x3, x0, x4, x5, x6⟩ := h4 (by omega)
  have hle : i * k + k ≤ m * k := by
    have := Nat.mul_le_mul_right k (show i + 1 ≤ m by omega)
    rw [Nat.add_mul] at this; omega
  refine ⟨a, c, b, h2, x3, x0, x4, by omega, ?_⟩
  rw [← x6, List.drop_take, List.take_take, List.drop_drop, Nat.min_eq_left (by omega)]
def motCells (l : List Mot) : List Value := l.flatMap Mot.cells
theorem motCells_length (l : List Mot) : (motCells l).length = l.length * 9 := by
  induction l with
  | nil => rfl
  | cons m l ih => simp only [motCells, List.flatMap_cons, List.length_append] at *; rw [ih]; simp [Mot.cells]; omega
theorem motCells_at : ∀ (l : List Mot) (i : Nat) (hi : i < l.length), ((motCells l).drop (i * 9)).take 9 = l[i].cells
  | m :: l, 0, _ => by simp [motCells, Mot.cells]
  | m :: l, i + 1, hi => by
    have := motCells_at l i (by simpa using hi)
    simp only [motCells, List.flatMap_cons] at *
    rw [List.drop_append, List.drop_eq_nil_of_le (by simp [Mot.cells]; omega)]
    rw [show (i + 1) * 9 - m.cells.length = i * 9 by simp [Mot.cells]; omega]
    simpa using this
theorem motCells_append (a b : List Mot) : motCells (a ++ b) = motCells a ++ motCells b := by simp [motCells]
theorem motCells_closed (l : List Mot) : (motCells l).all closed1 = true := by
  rw [List.all_eq_true]; intro v hv
  simp only [motCells, List.mem_flatMap, Mot.cells] at hv
  obtain ⟨m, _, hv⟩ := hv
  simp only [List.mem_cons, List.not_mem_nil, or_false] at hv
  rcases hv with rfl | rfl | rfl | rfl | rfl | rfl | rfl | rfl | rfl <;> rfl
abbrev Mot.v (m : Mot) : Value := motV m.fx m.fy m.fz m.tx m.ty m.tz m.rate m.tool m.block
abbrev p3 (x y z : Int) : Value := .agg #[.int .i64 x, .int .i64 y, .int .i64 z]
/-- Element i of a slice of motions. -/
structure AtMot (s : Value) (i : Int) (m : Mot) (B o : Nat) (sp : Option Nat) (b : Blk) : Prop where
  idx : indexAddrA Try.prog 22 (some s) (some (.int .i64 i)) = some (.pointer (some ⟨B, o, sp⟩))
  l38 : ∀ h' : Heap, h' B = some b → loadA Try.prog h' 38 ⟨B, o, sp⟩ = some m.v
  l36 : ∀ h' : Heap, h' B = some b → loadA Try.prog h' 36 ⟨B, o, sp⟩ = some (p3 m.fx m.fy m.fz)
  l36' : ∀ h' : Heap, h' B = some b → loadA Try.prog h' 36 ⟨B, o + 3, sp⟩ = some (p3 m.tx m.ty m.tz)
  l2 : ∀ h' : Heap, h' B = some b → loadA Try.prog h' 2 ⟨B, o + 6, sp⟩ = some (.int .i64 m.rate)
  l3 : ∀ h' : Heap, h' B = some b → loadA Try.prog h' 3 ⟨B, o + 7, sp⟩ = some (.int .i64 m.tool)
  l3' : ∀ h' : Heap, h' B = some b → loadA Try.prog h' 3 ⟨B, o + 8, sp⟩ = some (.int .i64 m.block)
theorem RO.mot {h : Heap} {s : Value} {l : List Mot} (hr : RO h 9 s (motCells l) l.length) {i : Int} (h0 : 0 ≤ i) (h1 : i < l.length) :
    ∃ B o sp b, h B = some b ∧ b.own = false ∧ AtMot s i (l[i.toNat]!) B o sp b := by
  obtain ⟨j, rfl⟩ : ∃ j : Nat, i = j := ⟨i.toNat, by omega⟩
  have hj : j < l.length := by omega
  have eg : l[(j : Int).toNat]! = l[j] := by simp [hj]
  rw [eg]
  obtain ⟨⟨B, o, sp⟩, c, b, rfl, hB, ho, hg, hlen, hcells⟩ := hr.at hj
  rw [motCells_at l j hj] at hcells
  simp only at hB hg hlen hcells
  generalize l[j] = m at hcells ⊢
  have cell : ∀ q v, m.cells[q]? = some v → b.cells[o + j * 9 + q]? = some v := by
    intro q v hq
    have e1 := congrArg (·[q]?) hcells
    simp only [List.getElem?_take, List.getElem?_drop] at e1
    rw [hq] at e1
    have : q < 9 := by
      have := (List.getElem?_eq_some_iff.1 hq).1; simpa [Mot.cells] using this
    rw [if_pos this] at e1; exact e1
  have sub3 : ∀ q x y z, m.cells[q]? = some x → m.cells[q + 1]? = some y → m.cells[q + 2]? = some z → o + j * 9 + q + 3 ≤ b.cells.length → (b.cells.drop (o + j * 9 + q)).take 3 = [x, y, z] := by
    intro q x y z hx hy hz hl
    apply List.ext_getElem?
    intro i
    rw [List.getElem?_take, List.getElem?_drop]
    match i with
    | 0 => simpa using cell q x hx
    | 1 => simpa [Nat.add_assoc] using cell (q + 1) y hy
    | 2 => simpa [Nat.add_assoc] using cell (q + 2) z hz
    | i + 3 => simp; intro h; omega
  refine ⟨B, o + j * 9, sp, b, hB, ho, ⟨?_, ?_, ?_, ?_, ?_, ?_, ?_⟩⟩
  · simp -dsimp [hj]
  · intro h' hh
    unfold loadA
    simp only [Try.underlying38, hh, hg, gen, isAggT, c38, if_true]
    rw [if_pos ⟨by omega, by omega⟩, hcells]; rfl
  · intro h' hh
    unfold loadA
    simp only [Try.underlying36, hh, hg, gen, isAggT, c36, if_true]
    rw [if_pos ⟨by omega, by omega⟩]
    have := sub3 0 _ _ _ rfl rfl rfl (by omega)
    simp only [Nat.add_zero] at this
    rw [this]
  · intro h' hh
    unfold loadA
    simp only [Try.underlying36, hh, hg, gen, isAggT, c36, if_true]
    rw [if_pos ⟨by omega, by omega⟩, sub3 3 _ _ _ rfl rfl rfl (by omega)]
  · intro h' hh
    unfold loadA
    simp only [Try.underlying2, hh, hg, gen, isAggT, if_true, Bool.false_eq_true, if_false]
    exact cell 6 _ rfl
  · intro h' hh
    unfold loadA
    simp only [Try.underlying3, hh, hg, gen, isAggT, if_true, Bool.false_eq_true, if_false]
    exact cell 7 _ rfl
  · intro h' hh
    unfold loadA
    simp only [Try.underlying3, hh, hg, gen, isAggT, if_true, Bool.false_eq_true, if_false]
    exact cell 8 _ rfl
/-- Element i of a slice of numbers. -/
theorem RO.int {h : Heap} {s : Value} {l : List Int} (hr : RO h 1 s (ints l) l.length) {i : Int} (h0 : 0 ≤ i) (h1 : i < l.length) :
    ∃ B o sp b, h B = some b ∧ b.own = false ∧ indexAddrA Try.prog 39 (some s) (some (.int .i64 i)) = some (.pointer (some ⟨B, o, sp⟩)) ∧ ∀ h' : Heap, h' B = some b → loadA Try.prog h' 2 ⟨B, o, sp⟩ = some (.int .i64 l[i.toNat]!) := by
  obtain ⟨j, rfl⟩ : ∃ j : Nat, i = j := ⟨i.toNat, by omega⟩
  have hj : j < l.length := by omega
  have eg : l[(j : Int).toNat]! = l[j] := by simp [hj]
  rw [eg]
  obtain ⟨⟨B, o, sp⟩, c, b, rfl, hB, ho, hg, hlen, hcells⟩ := hr.at hj
  simp only [Nat.mul_one] at hB hg hlen hcells
  refine ⟨B, o + j, sp, b, hB, ho, by simp -dsimp [hj], ?_⟩
  intro h' hh
  unfold loadA
  simp only [Try.underlying2, hh, hg, gen, isAggT, if_true, Bool.false_eq_true, if_false]
  have e1 := congrArg (·[0]?) hcells
  simp only [List.getElem?_take, List.getElem?_drop] at e1
  simpa [ints, hj] using e1
/-! ### The controller -/
structure P3 where
  x : Int
  y : Int
  z : Int
deriving DecidableEq
instance : Inhabited P3 := ⟨⟨0, 0, 0⟩⟩
abbrev P3.v (p : P3) : Value := p3 p.x p.y p.z
def Mot.fr (m : Mot) : P3 := ⟨m.fx, m.fy, m.fz⟩
def Mot.to (m : Mot) : P3 := ⟨m.tx, m.ty, m.tz⟩
structure CS where
  ms : List Mot
  S : Int
  A : Int
  J : Int
  index : Int
  part : Int
  plan : List Int
  cov : Int
  braking : Bool
  held : Bool
  broken : Bool
  pieces : List Mot
  last : P3
abbrev cCells (mv pl pv : Value) (s : CS) : List Value := [mv, .int .i64 s.S, .int .i64 s.A, .int .i64 s.J, .int .i64 s.index, .int .i64 s.part, pl, .int .i64 s.cov, .bool s.braking, .bool s.held, .bool s.broken, pv, .int .i64 s.last.x, .int .i64 s.last.y, .int .i64 s.last.z]
/-- The slice of the pieces: none, or in a block of its own. -/
def PV (h : Heap) (C Lp : Nat) (pv : Value) (l : List Mot) : Prop :=
  (l = [] ∧ pv = .slice none 0 0 ∧ Lp = C) ∨ (l ≠ [] ∧ Lp ≠ C ∧ ∃ sp, pv = .slice (some ⟨Lp, 0, sp⟩) l.length 11 ∧ h Lp = some ⟨motCells l, 38, sp.getD 0, true⟩)
structure CRepV (h : Heap) (C Lp : Nat) (s : CS) (mv pl pv : Value) : Prop where
  blk : h C = some ⟨cCells mv pl pv s, 81, 0, true⟩
  mot : RO h 9 mv (motCells s.ms) s.ms.length
  plan : RO h 1 pl (ints s.plan) s.plan.length
  pcs : PV h C Lp pv s.pieces
def CRep (h : Heap) (C Lp : Nat) (s : CS) : Prop := ∃ mv pl pv, CRepV h C Lp s mv pl pv
/-- A contract of a call that answers by what it reads. -/
def Reads (g : FuncId) (args : List Value) (h : Heap) (r : Value) : Prop := ∃ F : List Nat, (∀ L ∈ F, (h L).isSome = true) ∧ ∀ h2 n2, (∀ L ∈ F, h2 L = h L) → Dm.Spec Try.prog g args h2 n2 fun r' h' n' => r' = r ∧ h' = h2 ∧ n' = n2
theorem Reads.here {g : FuncId} {args : List Value} {h : Heap} {r : Value} (hr : Reads g args h r) (n : Nat) : Dm.Spec Try.prog g args h n fun r' h' n' => r' = r ∧ h' = h ∧ n' = n := by
  obtain ⟨F, _, hs⟩ := hr; exact hs h n fun _ _ => rfl
/-- What the controller's words read: its own block and the motions. -/
theorem CRepV.agree {h : Heap} {C Lp : Nat} {s : CS} {mv pl pv : Value} (hc : CRepV h C Lp s mv pl pv) : ∃ F : List Nat, (∀ L ∈ F, (h L).isSome = true) ∧ ∀ h2 : Heap, (∀ L ∈ F, h2 L = h L) → CRepV h2 C Lp s mv pl pv := by
  have ro : ∀ {k : Nat} {v : Value} {cells : List Value} {m : Nat}, RO h k v cells m → ∃ F : List Nat, (∀ L ∈ F, (h L).isSome = true) ∧ ∀ h2 : Heap, (∀ L ∈ F, h2 L = h L) → RO h2 k v cells m := by
    intro k v cells m hr
    obtain ⟨h1, A, c, h2, h3, h4⟩ := hr
    by_cases hm : 0 < m
    · obtain ⟨a, b, x1, x2, x3, x4⟩ := h4 hm
      exact ⟨[a.block], by simp [x2], fun h2' hh => ⟨h1, A, c, h2, h3, fun _ => ⟨a, b, x1, by rw [hh _ (by simp)]; exact x2, x3, x4⟩⟩⟩
    · exact ⟨[], by simp, fun h2' hh => ⟨h1, A, c, h2, h3, fun h => absurd h hm⟩⟩
  obtain ⟨F1, f1, g1⟩ := ro hc.mot
  obtain ⟨F2, f2, g2⟩ := ro hc.plan
  have hp : ∃ F : List Nat, (∀ L ∈ F, (h L).isSome = true) ∧ ∀ h2 : Heap, (∀ L ∈ F, h2 L = h L) → PV h2 C Lp pv s.pieces := by
    rcases hc.pcs with h1 | ⟨h0, h1, sp, h2, h3⟩
    · exact ⟨[], by simp, fun h2 _ => .inl h1⟩
    · exact ⟨[Lp], by simp [h3], fun h2' hh => .inr ⟨h0, h1, sp, h2, by rw [hh _ (by simp)]; exact h3⟩⟩
  obtain ⟨F3, f3, g3⟩ := hp
  refine ⟨C :: (F1 ++ (F2 ++ F3)), ?_, fun h2 hh => ⟨by rw [hh C (by simp)]; exact hc.blk, g1 h2 fun L hL => hh L (by simp [hL]), g2 h2 fun L hL => hh L (by simp [hL]), g3 h2 fun L hL => hh L (by simp [hL])⟩⟩
  intro L hL
  simp only [List.mem_cons, List.mem_append] at hL
  rcases hL with rfl | h | h | h
  · rw [hc.blk]; rfl
  · exact f1 L h
  · exact f2 L h
  · exact f3 L h
theorem CRepV.reads {h : Heap} {C Lp : Nat} {s : CS} {mv pl pv : Value} (hc : CRepV h C Lp s mv pl pv) {g : FuncId} {args : List Value} {r : Value}
    (hs : ∀ h2 n2, CRepV h2 C Lp s mv pl pv → Dm.Spec Try.prog g args h2 n2 fun r' h' n' => r' = r ∧ h' = h2 ∧ n' = n2) : Reads g args h r := by
  obtain ⟨F, f1, f2⟩ := hc.agree
  exact ⟨F, f1, fun h2 n2 hh => hs h2 n2 (f2 h2 hh)⟩
abbrev pC (C : Nat) : Value := .pointer (some ⟨C, 0, none⟩)
def CS.resting (s : CS) : Bool := decide (s.cov = s.plan.length)
abbrev u55_1 : List (Nat × Nat) := []
theorem w55 {h : Heap} {C Lp : Nat} {s : CS} {mv pl pv : Value} (hc : CRepV h C Lp s mv pl pv) (n : Nat) : Dm.Spec Try.prog 55 [pC C] h n fun r' h' n' => r' = .bool s.resting ∧ h' = h ∧ n' = n := by
  refine pureAt Try.func55 rfl (by kernel_rfl) Try.ntmps55 (by rw [Try.results55]) (Nat.le_of_ble_eq_true rfl) ?_
  obtain ⟨A, c, e⟩ := hc.plan.len
  refine Sat.sq ?_
  refine Sat.reg (by kernel_rfl) ?_
  simp -dsimp
  refine Sat.sq ?_
  refine Sat.drw u55_1 mixed (by kernel_rfl) (by kernel_rfl) (by kernel_rfl) (by kernel_rfl) ?_
  simp -dsimp [hc.blk, e]
  refine Sat.ret (PureQ.ret rfl keep_refl ?_)
  simp -dsimp [CS.resting, Bool.beq_eq_decide_eq]
theorem w24 {h : Heap} {C Lp : Nat} {s : CS} {mv pl pv : Value} (hc : CRepV h C Lp s mv pl pv) (n : Nat) : Dm.Spec Try.prog 24 [pC C] h n fun r' h' n' => r' = .int .i64 s.index ∧ h' = h ∧ n' = n := by
  refine pureAt Try.func24 rfl (by kernel_rfl) Try.ntmps24 (by rw [Try.results24]) (Nat.le_of_ble_eq_true rfl) ?_
  refine Sat.sq ?_
  refine Sat.reg (by kernel_rfl) ?_
  simp -dsimp
  refine Sat.sq ?_
  refine Sat.reg (by kernel_rfl) ?_
  simp -dsimp [hc.blk]
  refine Sat.ret (PureQ.ret rfl keep_refl ?_)
  simp -dsimp
abbrev u30_1 : List (Nat × Nat) := [(3, 5)]
theorem w30 {h : Heap} {C Lp : Nat} {s : CS} {mv pl pv : Value} (hc : CRepV h C Lp s mv pl pv) (n : Nat) : Dm.Spec Try.prog 30 [pC C] h n fun r' h' n' => r' = .tuple #[.bool s.held, .bool s.resting] ∧ h' = h ∧ n' = n := by
  refine pureAt Try.func30 rfl (by kernel_rfl) Try.ntmps30 (by rw [Try.results30]) (Nat.le_of_ble_eq_true rfl) ?_
  obtain ⟨F, hF, hr⟩ := hc.reads (g := 55) fun h2 n2 hc => w55 hc n2
  refine Sat.sq ?_
  refine Sat.reg (by kernel_rfl) ?_
  simp -dsimp
  refine Sat.sq ?_
  refine Sat.drw u30_1 mixed (by kernel_rfl) (by kernel_rfl) (by kernel_rfl) (by kernel_rfl) ?_
  simp -dsimp [hc.blk]
  refine callD.reads _ F hr ?_
  simp -dsimp
  refine Sat.ret (PureQ.ret rfl keep_refl ?_)
  simp -dsimp
def CS.cur (s : CS) : Mot := s.ms[s.index.toNat]!
def Mot.at' (m : Mot) (p : Int) : P3 := ⟨posM m.fx m.tx p m.len, posM m.fy m.ty p m.len, posM m.fz m.tz p m.len⟩
def CS.pos (s : CS) : P3 := if s.ms.length = 0 then ⟨0, 0, 0⟩ else if s.index = s.ms.length then (s.ms[(s.index - 1).toNat]!).to else s.cur.at' s.part
/-- What holds of a controller at all times. -/
structure CS.Ok (s : CS) : Prop where
  near : ∀ m ∈ s.ms, m.near
  rate : ∀ m ∈ s.ms, 0 ≤ m.rate ∧ m.rate ≤ 9223372036854775807
  few : s.ms.length ≤ 20000
  idx : 0 ≤ s.index ∧ s.index ≤ s.ms.length
  part : s.index < s.ms.length → 1 ≤ s.cur.len ∧ 0 ≤ s.part ∧ s.part ≤ s.cur.len
  lim : validM s.S s.A s.J = true
theorem Mot.len_in {m : Mot} (h : m.near) : 0 ≤ m.len ∧ m.len ≤ 40000000 := by
  obtain ⟨h1, h2⟩ := Mot.sum_in h
  have := lenS_spec (s := m.sum) (by omega)
  exact ⟨this.1, this.2.1⟩
theorem cur_mem {s : CS} (h0 : 0 ≤ s.index) (h1 : s.index < s.ms.length) : s.cur ∈ s.ms := by
  unfold CS.cur
  rw [getElem!_pos s.ms s.index.toNat (by omega)]
  exact List.getElem_mem _
abbrev u57_1 : List (Nat × Nat) := [(10, 14)]
theorem w57 {h : Heap} {C Lp : Nat} {s : CS} {mv pl pv : Value} (hc : CRepV h C Lp s mv pl pv) (ho : s.Ok) (hi : s.index < s.ms.length) (n : Nat) : Dm.Spec Try.prog 57 [pC C] h n fun r' h' n' => r' = .int .i64 (s.cur.len - s.part) ∧ h' = h ∧ n' = n := by
  refine pureAt Try.func57 rfl (by kernel_rfl) Try.ntmps57 (by rw [Try.results57]) (Nat.le_of_ble_eq_true rfl) ?_
  obtain ⟨B, o, sp, b, hB, hbo, am⟩ := hc.mot.mot ho.idx.1 hi
  have hn := ho.near _ (cur_mem ho.idx.1 hi)
  have hl := Mot.len_in hn
  have hp := ho.part hi
  change AtMot mv s.index s.cur B o sp b at am
  refine Sat.sq ?_
  refine Sat.reg (by kernel_rfl) ?_
  simp -dsimp
  refine Sat.sq ?_
  refine Sat.drw u57_1 mixed (by kernel_rfl) (by kernel_rfl) (by kernel_rfl) (by kernel_rfl) ?_
  simp -dsimp [hc.blk, -indexAddrA, am.idx, ↓am.l38, hB]
  refine callD.pure (w68 _ hn) ?_
  simp -dsimp [hc.blk]
  refine Sat.ret (PureQ.ret rfl keep_refl ?_)
  simp -dsimp
  simp -dsimp (disch := omega) only [wrap_in]

end Go.Proofs.Ytoinimkmoojcoaa
/- Walks, part B3. -/
set_option maxRecDepth 100000
set_option maxHeartbeats 4000000
set_option linter.unusedSimpArgs false
set_option linter.unusedVariables false
namespace Go.Proofs.Ytoinimkmoojcoaa
open Go Go.Dm
attribute [local simp ↓] RunS_nil RunS_op RunS_guard RunT_nil RunT_op RunT_guard opS_call opD_call opS_move opD_move opS_assign opD_assign opS_pick opD_pick opS_nilCheck opD_nilCheck opS_fieldAddr opD_fieldAddr opS_indexAddr opD_indexAddr opS_load opD_load opS_store opD_store opS_alloc opD_alloc opS_box opD_box opS_build opD_build opS_buildSlice opD_buildSlice opS_field opD_field opS_extract opD_extract opS_makeFunc opD_makeFunc opS_slice opD_slice opS_binOp opD_binOp opS_unOp opD_unOp opS_convert opD_convert opS_index opD_index opS_len opD_len opS_append opD_append opS_max opD_max opS_min opD_min obind_some obind_none thenH_normal thenH_ret thenH_exit blockA_normal blockA_ret blockA_exit thenA_normal thenA_ret thenA_exit dstAt_mk dstL_zero dstL_succ
attribute [local simp] undef wantG_bool wantG_undef findO_some calleeS find putA ev closed3 closed2 closed1 closed0 pickA binF unF convF mxF eqNilA fastBin fastUn fastConv intBin argEnv resultsA resultsL resultA notTuple allocs eff
  loadO storeO allocO boxO sliceO indexO indexAddrA loadA storeA newA isAggT nilCheckA lenA evAll evParts aadd gen upd_at upd_upd Value.cells mxV Pairs apart readsS labOf putAt fieldA partA extractA makeFuncA evOpt boundOf sliceA Nat.add_assoc
attribute [local simp] bu107_z bu107_0_1 bu25_0_1_2 bu36_z bu36_0_1 bu36_0_1_2 bu36_0 bu38_z bu38_0_1_2_3_4 bu38_0_1_3 bu38_0_1_3_4 bu38_1_2 bu38_1_2_3 bu52_0_1_10 bu81_0_1 bs22_0_z bs22_1_0 bs22_2_0_1 bs39_1_0 bs39_7_0_1_2_3_4_5_6 bs95_4_0_1_2_3
attribute [local simp ↓] eql107 neq107 eql36 neq36 eql38 neq38 eql25 neq25
attribute [local simp] fa25_0 fa25_1 fa25_2 fa36_0 fa36_1 fa36_2 fa38_0 fa38_1 fa38_2 fa38_3 fa38_4 fa107_0 fa107_1 fa81_0 fa81_1 fa81_2 fa81_3 fa81_4 fa81_5 fa81_6 fa81_7 fa81_8 fa81_9 fa81_10 fa52_0 fa52_1 fa52_2 fa52_3 fa52_4 fa52_5 fa52_6 fa52_7 fa52_8 fa52_9 fa52_10 fa52_11 fa52_12
attribute [local simp] c25 c38 c2 c3 c4 c36 c107 c30 z25 z38 z2 z3 z4 z36 z107 b38 b25 b107 h38 h25 h36 h107 g38 g25 g36 g107 Try.underlying25 Try.underlying38 Try.underlying2 Try.underlying3 Try.underlying4 Try.underlying36 Try.underlying22 Try.underlying39 Try.underlying29 Try.underlying81 Try.underlying107 Try.underlying30
attribute [local simp] mx mn
theorem near_okc {m : Mot} (h : m.near) : (okc m.fx ∧ okc m.fy ∧ okc m.fz) ∧ okc m.tx ∧ okc m.ty ∧ okc m.tz := by
  simp only [Mot.near, inR, okc] at *; omega
theorem ne2 {a b : Nat} (h : a < b) : ¬ a = b ∧ ¬ b = a := by omega
abbrev u31_3 : List (Nat × Nat) := []
abbrev u31_4 : List (Nat × Nat) := []
abbrev u31_5 : List (Nat × Nat) := [(3, 10), (7, 10), (9, 10)]
abbrev u31_6 : List (Nat × Nat) := [(1, 9), (3, 9), (7, 9), (1, 14), (3, 14), (7, 14), (8, 14), (9, 14), (10, 14)]
theorem w31 {h : Heap} {C Lp : Nat} {s : CS} {mv pl pv : Value} (hc : CRepV h C Lp s mv pl pv) (ho : s.Ok) (n : Nat) : Dm.Spec Try.prog 31 [pC C] h n fun r' h' n' => r' = s.pos.v ∧ h' = h ∧ n' = n := by
  refine pureAt Try.func31 rfl (by kernel_rfl) Try.ntmps31 (by rw [Try.results31]) (Nat.le_of_ble_eq_true rfl) ?_
  refine Sat.lt fun hlt => ?_
  obtain ⟨A, c, e⟩ := hc.mot.len
  have lC := hlt C _ hc.blk
  have nC := ne2 (show C < n by omega)
  have nC1 := ne2 (show C < n + 1 by omega)
  have nC2 := ne2 (show C < n + 2 by omega)
  have i0 := ho.idx.1
  have i1 := ho.idx.2
  have few := ho.few
  refine Sat.sq ?_
  refine Sat.reg (by kernel_rfl) ?_
  simp -dsimp
  refine Sat.sq ?_
  refine Sat.block ?_
  refine Sat.sq ?_
  refine Sat.reg (by kernel_rfl) ?_
  simp -dsimp [nC, hc.blk, e]
  refine Sat.ite rfl (fun hc0 => ?_) (fun hc0 => ?_)
  · have hc0 : s.ms.length = 0 := by simpa using hc0
    refine Sat.sq ?_
    refine Sat.reg (by kernel_rfl) ?_
    simp -dsimp
    refine Sat.ret ?_
    simp -dsimp only [blockA_ret, thenH_ret]
    refine PureQ.ret rfl (keep_upd (by omega) keep_refl) ?_
    simp -dsimp [CS.pos, hc0]
  have hc0 : ¬ s.ms.length = 0 := by simpa using hc0
  refine Sat.sq ?_
  refine Sat.drw u31_3 mixed (by kernel_rfl) (by kernel_rfl) (by kernel_rfl) (by kernel_rfl) ?_
  simp -dsimp [nC, hc.blk, e]
  refine Sat.ite rfl (fun hc1 => ?_) (fun hc1 => ?_)
  · have hc1 : s.index = s.ms.length := by simpa using hc1
    obtain ⟨B, o, sp, b, hB, hbo, am⟩ := hc.mot.mot (i := s.index - 1) (by omega) (by omega)
    have lB := hlt B _ hB
    have nB := ne2 (show B < n by omega)
    refine Sat.sq ?_
    refine Sat.drw u31_4 mixed (by kernel_rfl) (by kernel_rfl) (by kernel_rfl) (by kernel_rfl) ?_
    have W : IntKind.i64.wrap (s.index - 1) = s.index - 1 := wrap_in (by omega) (by omega)
    simp -dsimp [nC, hc.blk, -indexAddrA, W, am.idx, ↓am.l36', hB, nB]
    refine Sat.ret ?_
    simp -dsimp only [blockA_ret, thenH_ret]
    refine PureQ.ret rfl (keep_upd (by omega) keep_refl) ?_
    simp -dsimp [CS.pos, hc0, hc1, Mot.to]
  have hc1 : ¬ s.index = s.ms.length := by simpa using hc1
  obtain ⟨B, o, sp, b, hB, hbo, am⟩ := hc.mot.mot ho.idx.1 (by omega)
  change AtMot mv s.index s.cur B o sp b at am
  have hn := ho.near _ (cur_mem ho.idx.1 (by omega))
  have hl := Mot.len_in hn
  have hp := ho.part (by omega)
  have lB := hlt B _ hB
  have nB := ne2 (show B < n by omega)
  have nB1 := ne2 (show B < n + 1 by omega)
  have hpos : s.pos = s.cur.at' s.part := by simp [CS.pos, hc0, hc1]
  obtain ⟨k1, k2⟩ := near_okc hn
  refine Sat.skip ?_
  simp -dsimp
  refine Sat.sq ?_
  refine Sat.drw u31_5 mixed (by kernel_rfl) (by kernel_rfl) (by kernel_rfl) (by kernel_rfl) ?_
  simp -dsimp [nC, hc.blk, nC1, -indexAddrA, am.idx, ↓am.l38, hB, nB, nB1]
  refine Sat.sq ?_
  refine Sat.drw u31_6 mixed (by kernel_rfl) (by kernel_rfl) (by kernel_rfl) (by kernel_rfl) ?_
  simp -dsimp [nC, nC1, hc.blk]
  refine callD.pure (w68 _ hn) ?_
  simp -dsimp
  refine callD.pure (w67 _ _ _ _ _ _ _ _ k1 k2 ⟨hp.1, hl.2⟩ ⟨hp.2.1, hp.2.2⟩) ?_
  simp -dsimp [nC, nC1, nC2]
  refine Sat.sq ?_
  refine Sat.reg (by kernel_rfl) ?_
  simp -dsimp
  refine Sat.ret (PureQ.ret rfl ?_ ?_)
  · repeat (first | exact keep_refl | refine keep_upd (by omega) ?_)
  · rw [hpos]; simp [Mot.at']

end Go.Proofs.Ytoinimkmoojcoaa
/- Walks, part B4. -/
set_option maxRecDepth 100000
set_option maxHeartbeats 4000000
set_option linter.unusedSimpArgs false
set_option linter.unusedVariables false
namespace Go.Proofs.Ytoinimkmoojcoaa
open Go Go.Dm
attribute [local simp ↓] RunS_nil RunS_op RunS_guard RunT_nil RunT_op RunT_guard opS_call opD_call opS_move opD_move opS_assign opD_assign opS_pick opD_pick opS_nilCheck opD_nilCheck opS_fieldAddr opD_fieldAddr opS_indexAddr opD_indexAddr opS_load opD_load opS_store opD_store opS_alloc opD_alloc opS_box opD_box opS_build opD_build opS_buildSlice opD_buildSlice opS_field opD_field opS_extract opD_extract opS_makeFunc opD_makeFunc opS_slice opD_slice opS_binOp opD_binOp opS_unOp opD_unOp opS_convert opD_convert opS_index opD_index opS_len opD_len opS_append opD_append opS_max opD_max opS_min opD_min obind_some obind_none thenH_normal thenH_ret thenH_exit blockA_normal blockA_ret blockA_exit thenA_normal thenA_ret thenA_exit dstAt_mk dstL_zero dstL_succ
attribute [local simp] undef wantG_bool wantG_undef findO_some calleeS find putA ev closed3 closed2 closed1 closed0 pickA binF unF convF mxF eqNilA fastBin fastUn fastConv intBin argEnv resultsA resultsL resultA notTuple allocs eff
  loadO storeO allocO boxO sliceO indexO indexAddrA loadA storeA newA isAggT nilCheckA lenA evAll evParts aadd gen upd_at upd_upd Value.cells mxV Pairs apart readsS labOf putAt fieldA partA extractA makeFuncA evOpt boundOf sliceA Nat.add_assoc
attribute [local simp] bu107_z bu107_0_1 bu25_0_1_2 bu36_z bu36_0_1 bu36_0_1_2 bu36_0 bu38_z bu38_0_1_2_3_4 bu38_0_1_3 bu38_0_1_3_4 bu38_1_2 bu38_1_2_3 bu52_0_1_10 bu81_0_1 bs22_0_z bs22_1_0 bs22_2_0_1 bs39_1_0 bs39_7_0_1_2_3_4_5_6 bs95_4_0_1_2_3
attribute [local simp ↓] eql107 neq107 eql36 neq36 eql38 neq38 eql25 neq25
attribute [local simp] fa25_0 fa25_1 fa25_2 fa36_0 fa36_1 fa36_2 fa38_0 fa38_1 fa38_2 fa38_3 fa38_4 fa107_0 fa107_1 fa81_0 fa81_1 fa81_2 fa81_3 fa81_4 fa81_5 fa81_6 fa81_7 fa81_8 fa81_9 fa81_10 fa52_0 fa52_1 fa52_2 fa52_3 fa52_4 fa52_5 fa52_6 fa52_7 fa52_8 fa52_9 fa52_10 fa52_11 fa52_12
attribute [local simp] c25 c38 c2 c3 c4 c36 c107 c30 z25 z38 z2 z3 z4 z36 z107 b38 b25 b107 h38 h25 h36 h107 g38 g25 g36 g107 Try.underlying25 Try.underlying38 Try.underlying2 Try.underlying3 Try.underlying4 Try.underlying36 Try.underlying22 Try.underlying39 Try.underlying29 Try.underlying81 Try.underlying107 Try.underlying30
attribute [local simp] mx mn
def CS.seg (s : CS) : Mot := { s.cur with fx := s.last.x, fy := s.last.y, fz := s.last.z, tx := s.pos.x, ty := s.pos.y, tz := s.pos.z }
def CS.piece (s : CS) : Mot × Bool := if s.index = s.ms.length then (⟨0, 0, 0, 0, 0, 0, 0, 0, 0⟩, false) else (s.seg, decide (¬ s.last = s.pos))
abbrev u54_1 : List (Nat × Nat) := []
abbrev u54_3 : List (Nat × Nat) := [(3, 10), (7, 10), (9, 10)]
abbrev u54_4 : List (Nat × Nat) := [(3, 5)]
abbrev u54_5 : List (Nat × Nat) := [(2, 6), (4, 6)]
theorem P3.eq_iff (p q : P3) : p = q ↔ p.x = q.x ∧ p.y = q.y ∧ p.z = q.z := by cases p; cases q; simp
theorem w54 {h : Heap} {C Lp : Nat} {s : CS} {mv pl pv : Value} (hc : CRepV h C Lp s mv pl pv) (ho : s.Ok) (n : Nat) : Dm.Spec Try.prog 54 [pC C] h n fun r' h' n' => r' = .tuple #[s.piece.1.v, .bool s.piece.2] ∧ h' = h ∧ n' = n := by
  refine pureAt Try.func54 rfl (by kernel_rfl) Try.ntmps54 (by rw [Try.results54]) (Nat.le_of_ble_eq_true rfl) ?_
  refine Sat.lt fun hlt => ?_
  obtain ⟨A, c, e⟩ := hc.mot.len
  have lC := hlt C _ hc.blk
  have nC := ne2 (show C < n by omega)
  have nC1 := ne2 (show C < n + 1 by omega)
  have i0 := ho.idx.1
  have i1 := ho.idx.2
  have few := ho.few
  refine Sat.sq ?_
  refine Sat.reg (by kernel_rfl) ?_
  simp -dsimp
  refine Sat.sq ?_
  refine Sat.sq ?_
  refine Sat.drw u54_1 mixed (by kernel_rfl) (by kernel_rfl) (by kernel_rfl) (by kernel_rfl) ?_
  simp -dsimp [nC, hc.blk, e]
  refine Sat.ite rfl (fun hc1 => ?_) (fun hc1 => ?_)
  · have hc1 : s.index = s.ms.length := by simpa using hc1
    refine Sat.sq ?_
    refine Sat.reg (by kernel_rfl) ?_
    simp -dsimp
    refine Sat.ret (PureQ.ret rfl (keep_upd (by omega) keep_refl) ?_)
    simp -dsimp [CS.piece, hc1]
  have hc1 : ¬ s.index = s.ms.length := by simpa using hc1
  obtain ⟨B, o, sp, b, hB, hbo, am⟩ := hc.mot.mot ho.idx.1 (by omega)
  change AtMot mv s.index s.cur B o sp b at am
  have lB := hlt B _ hB
  have nB := ne2 (show B < n by omega)
  have nB1 := ne2 (show B < n + 1 by omega)
  have hpc : s.piece = (s.seg, decide (¬ s.last = s.pos)) := by simp [CS.piece, hc1]
  refine Sat.skip ?_
  simp -dsimp
  refine Sat.sq ?_
  refine Sat.drw u54_3 mixed (by kernel_rfl) (by kernel_rfl) (by kernel_rfl) (by kernel_rfl) ?_
  simp -dsimp [nC, hc.blk, nC1, -indexAddrA, am.idx, ↓am.l38, hB, nB, nB1]
  refine Sat.sq ?_
  refine Sat.drw u54_4 mixed (by kernel_rfl) (by kernel_rfl) (by kernel_rfl) (by kernel_rfl) ?_
  simp -dsimp [nC, nC1, hc.blk]
  obtain ⟨F, hF, hr⟩ := hc.reads (g := 31) fun h2 n2 hc => w31 hc ho n2
  have hF' : ∀ L ∈ F, L < n := fun L hL => by
    obtain ⟨b, hb⟩ := Option.isSome_iff_exists.1 (hF L hL); exact hlt L b hb
  refine callD.reads _ F (fun h2 n2 hh => hr h2 n2 fun L hL => ?_) ?_
  · have := hF' L hL
    rw [hh L hL]; simp only [upd_at]; rw [if_neg (by omega), if_neg (by omega)]
  simp -dsimp
  refine Sat.sq ?_
  refine Sat.drw u54_5 mixed (by kernel_rfl) (by kernel_rfl) (by kernel_rfl) (by kernel_rfl) ?_
  simp -dsimp
  refine Sat.ret (PureQ.ret rfl ?_ ?_)
  · repeat (first | exact keep_refl | refine keep_upd (by omega) ?_)
  · rw [hpc]; simp [CS.seg, P3.eq_iff]

end Go.Proofs.Ytoinimkmoojcoaa
/- Walks, part B5. -/
set_option maxRecDepth 100000
set_option maxHeartbeats 4000000
set_option linter.unusedSimpArgs false
set_option linter.unusedVariables false
namespace Go.Proofs.Ytoinimkmoojcoaa
open Go Go.Dm
attribute [local simp ↓] RunS_nil RunS_op RunS_guard RunT_nil RunT_op RunT_guard opS_call opD_call opS_move opD_move opS_assign opD_assign opS_pick opD_pick opS_nilCheck opD_nilCheck opS_fieldAddr opD_fieldAddr opS_indexAddr opD_indexAddr opS_load opD_load opS_store opD_store opS_alloc opD_alloc opS_box opD_box opS_build opD_build opS_buildSlice opD_buildSlice opS_field opD_field opS_extract opD_extract opS_makeFunc opD_makeFunc opS_slice opD_slice opS_binOp opD_binOp opS_unOp opD_unOp opS_convert opD_convert opS_index opD_index opS_len opD_len opS_append opD_append opS_max opD_max opS_min opD_min obind_some obind_none thenH_normal thenH_ret thenH_exit blockA_normal blockA_ret blockA_exit thenA_normal thenA_ret thenA_exit dstAt_mk dstL_zero dstL_succ
attribute [local simp] undef wantG_bool wantG_undef findO_some calleeS find putA ev closed3 closed2 closed1 closed0 pickA binF unF convF mxF eqNilA fastBin fastUn fastConv intBin argEnv resultsA resultsL resultA notTuple allocs eff
  loadO storeO allocO boxO sliceO indexO indexAddrA loadA storeA newA isAggT nilCheckA lenA evAll evParts aadd gen upd_at upd_upd Value.cells mxV Pairs apart readsS labOf putAt fieldA partA extractA makeFuncA evOpt boundOf sliceA Nat.add_assoc
attribute [local simp] bu107_z bu107_0_1 bu25_0_1_2 bu36_z bu36_0_1 bu36_0_1_2 bu36_0 bu38_z bu38_0_1_2_3_4 bu38_0_1_3 bu38_0_1_3_4 bu38_1_2 bu38_1_2_3 bu52_0_1_10 bu81_0_1 bs22_0_z bs22_1_0 bs22_2_0_1 bs39_1_0 bs39_7_0_1_2_3_4_5_6 bs95_4_0_1_2_3
attribute [local simp ↓] eql107 neq107 eql36 neq36 eql38 neq38 eql25 neq25
attribute [local simp] fa25_0 fa25_1 fa25_2 fa36_0 fa36_1 fa36_2 fa38_0 fa38_1 fa38_2 fa38_3 fa38_4 fa107_0 fa107_1 fa81_0 fa81_1 fa81_2 fa81_3 fa81_4 fa81_5 fa81_6 fa81_7 fa81_8 fa81_9 fa81_10 fa52_0 fa52_1 fa52_2 fa52_3 fa52_4 fa52_5 fa52_6 fa52_7 fa52_8 fa52_9 fa52_10 fa52_11 fa52_12
attribute [local simp] c25 c38 c2 c3 c4 c36 c107 c30 z25 z38 z2 z3 z4 z36 z107 b38 b25 b107 h38 h25 h36 h107 g38 g25 g36 g107 Try.underlying25 Try.underlying38 Try.underlying2 Try.underlying3 Try.underlying4 Try.underlying36 Try.underlying22 Try.underlying39 Try.underlying29 Try.underlying81 Try.underlying107 Try.underlying30
attribute [local simp] mx mn
def skipL (ms : List Mot) : Nat → Int → Int
  | 0, i => i
  | k + 1, i => if i < ms.length ∧ (ms[i.toNat]!).len = 0 then skipL ms k (i + 1) else i
def CS.skip (s : CS) : CS := { s with index := skipL s.ms s.ms.length s.index }
abbrev u45_0 : List (Nat × Nat) := []
theorem PV.upd {h : Heap} {C Lp : Nat} {pv : Value} {l : List Mot} (hp : PV h C Lp pv l) {b : Blk} : PV (upd h C b) C Lp pv l := by
  rcases hp with h1 | ⟨h0, h1, sp, h2, h3⟩
  · exact .inl h1
  · exact .inr ⟨h0, h1, sp, h2, by rw [upd_at, if_neg h1]; exact h3⟩
theorem Fz.upd {h : Heap} {L : Nat} {b : Blk} (hL : ∀ b', h L = some b' → b'.own = true) : Fz h (upd h L b) := by
  intro L' b' x y
  rw [upd_at]; split
  · rename_i e; subst e; rw [hL _ x] at y; cases y
  · exact x
theorem CRepV.set {h : Heap} {C Lp : Nat} {s s' : CS} {mv pl pv : Value} (hc : CRepV h C Lp s mv pl pv) (h1 : s'.ms = s.ms) (h2 : s'.plan = s.plan) (h3 : s'.pieces = s.pieces) : CRepV (upd h C ⟨cCells mv pl pv s', 81, 0, true⟩) C Lp s' mv pl pv where
  blk := by rw [upd_at, if_pos rfl]
  mot := by rw [h1]; exact hc.mot.fz (Fz.upd fun b' hb => by rw [hc.blk] at hb; cases hb; rfl)
  plan := by rw [h2]; exact hc.plan.fz (Fz.upd fun b' hb => by rw [hc.blk] at hb; cases hb; rfl)
  pcs := by rw [h3]; exact hc.pcs.upd
theorem get_mem {l : List Mot} {i : Int} (h0 : 0 ≤ i) (h1 : i < l.length) : l[i.toNat]! ∈ l := by
  rw [getElem!_pos l i.toNat (by omega)]; exact List.getElem_mem _
theorem w45 {h : Heap} {C Lp : Nat} {s : CS} {mv pl pv : Value} (hc : CRepV h C Lp s mv pl pv) (near : ∀ m ∈ s.ms, m.near) (few : s.ms.length ≤ 20000) (idx : 0 ≤ s.index ∧ s.index ≤ s.ms.length) (n : Nat) :
    Dm.Spec Try.prog 45 [pC C] h n fun r' h' n' => r' = .tuple #[] ∧ h' = upd h C ⟨cCells mv pl pv s.skip, 81, 0, true⟩ ∧ n' = n := by
  refine Spec.body Try.func45 rfl (by kernel_rfl) Try.ntmps45 (by rw [Try.results45]) (Nat.le_of_ble_eq_true rfl) ?_
  refine Sat.lt fun hlt => ?_
  have nC := hlt C _ hc.blk
  obtain ⟨A, c, e⟩ := hc.mot.len
  subst e
  refine Sat.block ?_
  refine Sat.loop (ι := Nat × Int) (fun i T h' n' => find T 0 = some (pC C) ∧ h' = upd h C ⟨cCells (.slice A s.ms.length c) pl pv { s with index := i.2 }, 81, 0, true⟩ ∧ n' = n ∧ 0 ≤ i.2 ∧ i.2 ≤ s.ms.length ∧ s.ms.length - i.2 ≤ i.1 ∧ skipL s.ms i.1 i.2 = skipL s.ms s.ms.length s.index) (fun i => i.1) (s.ms.length, s.index) ?_ ?_
  · refine ⟨rfl, ?_, rfl, idx.1, idx.2, by simp only; omega, rfl⟩
    funext L; rw [upd_at]; split
    · rename_i e; subst e; exact hc.blk
    · rfl
  · rintro ⟨k, i⟩ T h' n' ⟨t0, rfl, rfl, i0, i1, ik, hk⟩
    simp only at i0 i1 ik hk
    have hc' : CRepV (upd h C ⟨cCells (.slice A s.ms.length c) pl pv { s with index := i }, 81, 0, true⟩) C Lp { s with index := i } (.slice A s.ms.length c) pl pv := hc.set rfl rfl rfl
    have hb := hc'.blk
    obtain ⟨h1, hh1⟩ : ∃ h1, upd h C ⟨cCells (.slice A s.ms.length c) pl pv { s with index := i }, 81, 0, true⟩ = h1 := ⟨_, rfl⟩
    rw [hh1] at hc' hb
    rw [hh1]
    refine Sat.sq ?_
    refine Sat.sq ?_
    refine Sat.drw u45_0 mixed (by kernel_rfl) (by kernel_rfl) (by kernel_rfl) (by kernel_rfl) ?_
    by_cases hi : i < s.ms.length
    · obtain ⟨B, o, sp, b, hB, hbo, am⟩ := hc'.mot.mot i0 hi
      have hn := near _ (get_mem i0 hi)
      simp only at am
      generalize hm : s.ms[i.toNat]! = m at *
      simp -dsimp [t0, hb, hi, -indexAddrA, am.idx, ↓am.l38, hB]
      refine callD.pure (w68 _ hn) ?_
      simp -dsimp
      refine Sat.ite rfl (fun hc0 => ?_) (fun hc0 => ?_)
      · have hc0 : m.len = 0 := by simpa using hc0
        have W : IntKind.i64.wrap (i + 1) = i + 1 := wrap_in (by omega) (by omega)
        obtain ⟨k, rfl⟩ : ∃ k', k = k' + 1 := ⟨k - 1, by omega⟩
        rw [skipL, if_pos ⟨hi, by rw [hm]; exact hc0⟩] at hk
        refine Sat.skip ?_
        simp -dsimp
        refine Sat.block ?_
        refine Sat.reg (by kernel_rfl) ?_
        simp -dsimp [t0, hb, W]
        exact ⟨k, ⟨i + 1, by rw [← hh1, upd_upd], by omega, by omega, by omega, by omega, hk⟩, by omega⟩
      · have hc0 : ¬ m.len = 0 := by simpa using hc0
        have hk' : skipL s.ms k i = i := by cases k <;> simp only [skipL, hm, hc0, and_false, if_false]
        refine Sat.exit ?_
        simp -dsimp
        refine RetQ.normal (n := n') rfl ⟨rfl, ?_, rfl⟩
        rw [← hh1, CS.skip, ← hk, hk']
    · have hk' : skipL s.ms k i = i := by cases k <;> simp [skipL, hi]
      simp -dsimp [t0, hb, hi]
      refine Sat.cond (t := false) (by rfl) ?_
      refine Sat.exit ?_
      simp -dsimp
      refine RetQ.normal (n := n') rfl ⟨rfl, ?_, rfl⟩
      rw [← hh1, CS.skip, ← hk, hk']

end Go.Proofs.Ytoinimkmoojcoaa
/- Walks, part B6. -/
set_option maxRecDepth 100000
set_option maxHeartbeats 4000000
set_option linter.unusedSimpArgs false
set_option linter.unusedVariables false
namespace Go.Proofs.Ytoinimkmoojcoaa
open Go Go.Dm
attribute [local simp ↓] RunS_nil RunS_op RunS_guard RunT_nil RunT_op RunT_guard opS_call opD_call opS_move opD_move opS_assign opD_assign opS_pick opD_pick opS_nilCheck opD_nilCheck opS_fieldAddr opD_fieldAddr opS_indexAddr opD_indexAddr opS_load opD_load opS_store opD_store opS_alloc opD_alloc opS_box opD_box opS_build opD_build opS_buildSlice opD_buildSlice opS_field opD_field opS_extract opD_extract opS_makeFunc opD_makeFunc opS_slice opD_slice opS_binOp opD_binOp opS_unOp opD_unOp opS_convert opD_convert opS_index opD_index opS_len opD_len opS_append opD_append opS_max opD_max opS_min opD_min obind_some obind_none thenH_normal thenH_ret thenH_exit blockA_normal blockA_ret blockA_exit thenA_normal thenA_ret thenA_exit dstAt_mk dstL_zero dstL_succ
attribute [local simp] undef wantG_bool wantG_undef findO_some calleeS find putA ev closed3 closed2 closed1 closed0 pickA binF unF convF mxF eqNilA fastBin fastUn fastConv intBin argEnv resultsA resultsL resultA notTuple allocs eff
  loadO storeO allocO boxO sliceO indexO indexAddrA loadA storeA newA isAggT nilCheckA lenA evAll evParts aadd gen upd_at upd_upd Value.cells mxV Pairs apart readsS labOf putAt fieldA partA extractA makeFuncA evOpt boundOf sliceA Nat.add_assoc
attribute [local simp] bu107_z bu107_0_1 bu25_0_1_2 bu36_z bu36_0_1 bu36_0_1_2 bu36_0 bu38_z bu38_0_1_2_3_4 bu38_0_1_3 bu38_0_1_3_4 bu38_1_2 bu38_1_2_3 bu52_0_1_10 bu81_0_1 bs22_0_z bs22_1_0 bs22_2_0_1 bs39_1_0 bs39_7_0_1_2_3_4_5_6 bs95_4_0_1_2_3
attribute [local simp ↓] eql107 neq107 eql36 neq36 eql38 neq38 eql25 neq25
attribute [local simp] fa25_0 fa25_1 fa25_2 fa36_0 fa36_1 fa36_2 fa38_0 fa38_1 fa38_2 fa38_3 fa38_4 fa107_0 fa107_1 fa81_0 fa81_1 fa81_2 fa81_3 fa81_4 fa81_5 fa81_6 fa81_7 fa81_8 fa81_9 fa81_10 fa52_0 fa52_1 fa52_2 fa52_3 fa52_4 fa52_5 fa52_6 fa52_7 fa52_8 fa52_9 fa52_10 fa52_11 fa52_12
attribute [local simp] c22 c39 c29 z22 z39 c25 c38 c2 c3 c4 c36 c107 c30 z25 z38 z2 z3 z4 z36 z107 b38 b25 b107 h38 h25 h36 h107 g38 g25 g36 g107 Try.underlying25 Try.underlying38 Try.underlying2 Try.underlying3 Try.underlying4 Try.underlying36 Try.underlying22 Try.underlying39 Try.underlying29 Try.underlying81 Try.underlying107 Try.underlying30
attribute [local simp] mx mn
theorem allocs_at (n L : Nat) (b : Blk) : allocs n (some (L, b)) = if L = n then n + 1 else n := rfl
theorem eff_at (h : Heap) (L : Nat) (b : Blk) : eff h (some (L, b)) = upd h L b := rfl
theorem PV.append {h : Heap} {C Lp : Nat} {pv : Value} {l : List Mot} (hp : PV h C Lp pv l) (m : Mot) {B L : Nat} {bo : Bool} (hB : h B = some ⟨m.cells, 38, 0, bo⟩) (hC : C < L) (hLp : Lp < L) (few : l.length ≤ 1000000000000) :
    ∃ pv' E Lp', appendA Try.prog h 22 pv (.slice (some ⟨B, 0, none⟩) 1 1) L = some (pv', E) ∧ (∀ L', L' ≠ Lp' → eff h E L' = h L') ∧ (l ≠ [] ∧ Lp' = Lp ∨ l = [] ∧ Lp' = L) ∧ L ≤ allocs L E ∧ Lp' < allocs L E ∧ PV (eff h E) C Lp' pv' (l ++ [m]) := by
  have hxs : sliceCells Try.prog h 9 (.slice (some ⟨B, 0, none⟩) 1 1) = some m.cells := by
    simp only [sliceCells, hB, gen]
    simp [Mot.cells]
  rcases hp with ⟨rfl, rfl, rfl⟩ | ⟨h0, h1, sp, rfl, h3⟩
  · refine ⟨.slice (some ⟨L, 0, none⟩) 1 11, some (L, ⟨m.cells, 38, 0, true⟩), L, ?_, ?_, .inr ⟨rfl, rfl⟩, ?_, ?_, ?_⟩
    · unfold appendA
      simp only [Try.underlying22, c38, if_pos (show 0 < 9 by omega), if_neg (show ¬ (1 = 0) by omega), hxs, z38, b38]
      simp [sliceCells]
    · intro L' hL'; simp only [eff, upd_at]; rw [if_neg hL']
    · simp [allocs]
    · simp [allocs]
    · exact .inr ⟨by simp, by omega, none, rfl, by simp [eff, upd_at, motCells]⟩
  · have hlen := motCells_length l
    have hpos : 0 < l.length := List.length_pos_iff.2 h0
    have hos : sliceCells Try.prog h 9 (.slice (some ⟨Lp, 0, sp⟩) l.length 11) = some (motCells l) := by
      obtain ⟨k, hk⟩ : ∃ j, l.length = j + 1 := ⟨l.length - 1, by omega⟩
      rw [hk]
      simp only [sliceCells, h3, gen]
      rw [hk] at hlen
      simp [hlen]
      rw [← hlen]; exact List.take_length
    have hne : ¬ Lp = L := by omega
    refine ⟨.slice (some ⟨Lp, 0, some (sp.getD 0 + 1)⟩) (l.length + 1) 11, some (Lp, ⟨motCells l ++ m.cells, 38, sp.getD 0 + 1, true⟩), Lp, ?_, ?_, .inl ⟨h0, rfl⟩, ?_, ?_, ?_⟩
    · unfold appendA
      simp only [Try.underlying22, c38, if_pos (show 0 < 9 by omega), if_neg (show ¬ (1 = 0) by omega), hxs, hos, z38, b38]
      rw [if_pos ⟨by first | trivial | rfl, by omega, by omega⟩, if_neg (by simp), if_pos ⟨by first | trivial | rfl, hpos⟩]
      simp [h3, hlen]
    · intro L' hL'; simp only [eff, upd_at]; rw [if_neg hL']
    · simp [allocs, hne]
    · simp [allocs, hne]; omega
    · exact .inr ⟨by simp, h1, some (sp.getD 0 + 1), by simp, by simp [eff, upd_at, motCells]⟩
theorem PV.frame {h h' : Heap} {C Lp : Nat} {pv : Value} {l : List Mot} (hp : PV h C Lp pv l) (hh : Lp ≠ C → h' Lp = h Lp) : PV h' C Lp pv l := by
  rcases hp with h1 | ⟨h0, h1, sp, h2, h3⟩
  · exact .inl h1
  · exact .inr ⟨h0, h1, sp, h2, by rw [hh h1]; exact h3⟩
/-- What a controller's word does to memory. -/
structure Moves (h : Heap) (n C Lp : Nat) (h' : Heap) (n' Lp' : Nat) : Prop where
  le : n ≤ n'
  frame : ∀ L, L < n → L ≠ C → L ≠ Lp → h' L = h L
  lab : Lp' = Lp ∨ n ≤ Lp'
  fz : Fz h h'
theorem Moves.trans {h1 h2 h3 : Heap} {n1 n2 n3 C L1 L2 L3 : Nat} (a : Moves h1 n1 C L1 h2 n2 L2) (b : Moves h2 n2 C L2 h3 n3 L3) : Moves h1 n1 C L1 h3 n3 L3 where
  le := Nat.le_trans a.le b.le
  frame L h1 h2 h3 := by
    rw [b.frame L (Nat.lt_of_lt_of_le h1 a.le) h2 (by rcases a.lab with h | h <;> omega), a.frame L h1 h2 h3]
  lab := by rcases a.lab with h | h <;> rcases b.lab with h' | h' <;> first | (left; omega) | (right; have := a.le; omega)
  fz := a.fz.trans b.fz
theorem Moves.refl (h : Heap) (n C Lp : Nat) : Moves h n C Lp h n Lp := ⟨Nat.le_refl _, fun _ _ _ _ => rfl, .inl rfl, Fz.refl h⟩
theorem CRepV.put {h : Heap} {C Lp : Nat} {s s' : CS} {mv pl pl' pv : Value} (hc : CRepV h C Lp s mv pl pv) (h1 : s'.ms = s.ms) (h2 : RO h 1 pl' (ints s'.plan) s'.plan.length) (h3 : s'.pieces = s.pieces) : CRepV (upd h C ⟨cCells mv pl' pv s', 81, 0, true⟩) C Lp s' mv pl' pv where
  blk := by rw [upd_at, if_pos rfl]
  mot := by rw [h1]; exact hc.mot.fz (Fz.upd fun b' hb => by rw [hc.blk] at hb; cases hb; rfl)
  plan := h2.fz (Fz.upd fun b' hb => by rw [hc.blk] at hb; cases hb; rfl)
  pcs := by rw [h3]; exact hc.pcs.upd
theorem CRepV.moves {h : Heap} {n C Lp : Nat} {s : CS} {mv pl pv : Value} (hc : CRepV h C Lp s mv pl pv) {b : Blk} : Moves h n C Lp (upd h C b) n Lp :=
  ⟨Nat.le_refl _, fun L _ h2 _ => by rw [upd_at, if_neg h2], .inl rfl, Fz.upd fun b' hb => by rw [hc.blk] at hb; cases hb; rfl⟩
/-- A fresh block beside it. -/
theorem CRepV.fresh {h : Heap} {n C Lp : Nat} {s : CS} {mv pl pv : Value} (hc : CRepV h C Lp s mv pl pv) (hlt : ∀ L b, h L = some b → L < n) (b : Blk) : CRepV (upd h n b) C Lp s mv pl pv ∧ Moves h n C Lp (upd h n b) (n + 1) Lp := by
  have hf : Fz h (upd h n b) := fun L b' x _ => by rw [upd_at, if_neg (by have := hlt _ _ x; omega)]; exact x
  refine ⟨⟨by rw [upd_at, if_neg (by have := hlt _ _ hc.blk; omega)]; exact hc.blk, hc.mot.fz hf, hc.plan.fz hf, ?_⟩, by omega, fun L h1 _ _ => by rw [upd_at, if_neg (by omega)], .inl rfl, hf⟩
  refine hc.pcs.frame fun hne => ?_
  rcases hc.pcs with ⟨_, _, h1⟩ | ⟨_, _, sp, _, h3⟩
  · exact absurd h1 hne
  · rw [upd_at, if_neg (by have := hlt _ _ h3; omega)]
theorem lt_upd {h : Heap} {n L : Nat} {b : Blk} (hlt : ∀ L b, h L = some b → L < n) (hL : L < n) : ∀ L' b', upd h L b L' = some b' → L' < n := by
  intro L' b' hx; rw [upd_at] at hx; split at hx
  · omega
  · exact hlt _ _ hx
theorem lt_fresh {h : Heap} {n : Nat} {b : Blk} (hlt : ∀ L b, h L = some b → L < n) : ∀ L' b', upd h n b L' = some b' → L' < n + 1 := by
  intro L' b' hx; rw [upd_at] at hx; split at hx
  · omega
  · have := hlt _ _ hx; omega
theorem CRepV.grow {h h2 : Heap} {n n' C Lp Lp' : Nat} {s : CS} {mv pl pv pv' : Value} {l' : List Mot} (hc : CRepV h C Lp s mv pl pv) (hlt : ∀ L b, h L = some b → L < n) (hfr : ∀ L', L' ≠ Lp' → h2 L' = h L') (hlab : s.pieces ≠ [] ∧ Lp' = Lp ∨ s.pieces = [] ∧ Lp' = n) (hpv : PV h2 C Lp' pv' l') (hn : n ≤ n') :
    CRepV (upd h2 C ⟨cCells mv pl pv' { s with pieces := l' }, 81, 0, true⟩) C Lp' { s with pieces := l' } mv pl pv' ∧ Moves h n C Lp (upd h2 C ⟨cCells mv pl pv' { s with pieces := l' }, 81, 0, true⟩) n' Lp' := by
  have hf : Fz h (upd h2 C ⟨cCells mv pl pv' { s with pieces := l' }, 81, 0, true⟩) := by
    intro L b x y
    rw [upd_at, if_neg (by intro e; subst e; rw [hc.blk] at x; cases x; cases y), hfr L ?_]
    · exact x
    · intro e; subst e
      rcases hlab with ⟨h0, rfl⟩ | ⟨_, rfl⟩
      · rcases hc.pcs with ⟨h1, _⟩ | ⟨_, _, sp, _, h3⟩
        · exact h0 h1
        · rw [h3] at x; cases x; cases y
      · have := hlt _ _ x; omega
  refine ⟨⟨by rw [upd_at, if_pos rfl], hc.mot.fz hf, hc.plan.fz hf, hpv.upd⟩, hn, fun L h1 h2' h3 => ?_, ?_, hf⟩
  · rw [upd_at, if_neg h2', hfr L (by rcases hlab with ⟨_, rfl⟩ | ⟨_, rfl⟩ <;> omega)]
  · rcases hlab with ⟨_, rfl⟩ | ⟨_, rfl⟩
    · exact .inl rfl
    · exact .inr (Nat.le_refl _)
theorem PV.val {h : Heap} {C Lp : Nat} {pv : Value} {l : List Mot} (hp : PV h C Lp pv l) : ∃ A c, pv = .slice A l.length c := by
  rcases hp with ⟨rfl, rfl, _⟩ | ⟨_, _, sp, h, _⟩
  · exact ⟨_, _, rfl⟩
  · exact ⟨_, _, h⟩
def CS.stop1 (s : CS) : CS := { s with plan := [], cov := 0, braking := false }
def CS.push (s : CS) : CS := if s.piece.2 then { s with pieces := s.pieces ++ [s.piece.1] } else s
def CS.toPos (s : CS) : CS := { s with last := s.pos }
def CS.adv (s : CS) : CS := if s.cur.len - s.part = 0 then CS.skip { s with index := s.index + 1, part := 0 } else s
def CS.stop (s : CS) : CS := s.stop1.push.toPos.adv
/-- A controller behind one of its words. -/
def CPost (h : Heap) (n C Lp : Nat) (s : CS) (mv : Value) (h' : Heap) (n' : Nat) : Prop := ∃ Lp' pl' pv', CRepV h' C Lp' s mv pl' pv' ∧ Moves h n C Lp h' n' Lp' ∧ Lp' < n'
abbrev u59_3 : List (Nat × Nat) := [(4, 6)]
theorem w59 {h : Heap} {C Lp : Nat} {s : CS} {mv pl pv : Value} (hc : CRepV h C Lp s mv pl pv) (ho : s.Ok) (hi : s.index < s.ms.length) (hpc : s.pieces.length ≤ 1000000000000) (n : Nat) (hCL : Lp < n) :
    Dm.Spec Try.prog 59 [pC C] h n fun r' h' n' => r' = .tuple #[] ∧ CPost h n C Lp s.stop mv h' n' := by
  refine Spec.body Try.func59 rfl (by kernel_rfl) Try.ntmps59 (by rw [Try.results59]) (Nat.le_of_ble_eq_true rfl) ?_
  refine Sat.lt fun hlt => ?_
  have lC := hlt C _ hc.blk
  have few := ho.few
  have nC := ne2 (show C < n by omega)
  have nC1 := ne2 (show C < n + 1 by omega)
  refine Sat.sq ?_
  refine Sat.reg (by kernel_rfl) ?_
  simp -dsimp [hc.blk, nC]
  have hc1 : CRepV (upd h C ⟨cCells mv (.slice none 0 0) pv s.stop1, 81, 0, true⟩) C Lp s.stop1 mv (.slice none 0 0) pv := hc.put rfl RO.nil rfl
  have hm1 : Moves h n C Lp (upd h C ⟨cCells mv (.slice none 0 0) pv s.stop1, 81, 0, true⟩) n Lp := hc.moves
  have hl1 := lt_upd (b := ⟨cCells mv (.slice none 0 0) pv s.stop1, 81, 0, true⟩) hlt lC
  obtain ⟨h1, hh1⟩ : ∃ h1, upd h C ⟨cCells mv (.slice none 0 0) pv s.stop1, 81, 0, true⟩ = h1 := ⟨_, rfl⟩
  rw [hh1] at hc1 hm1 hl1
  dsimp only [cCells, CS.stop1] at hh1
  rw [hh1]
  have ho1 : s.stop1.Ok := ⟨ho.near, ho.rate, ho.few, ho.idx, ho.part, ho.lim⟩
  have hi1 : s.stop1.index < s.stop1.ms.length := hi
  have hp1 : s.stop1.pieces.length ≤ 1000000000000 := hpc
  unfold CS.stop
  generalize s.stop1 = s1 at *
  refine Sat.join (fun T3 h3 n3 => find T3 0 = some (pC C) ∧ ∃ Lp' pv', CRepV h3 C Lp' s1.push mv (.slice none 0 0) pv' ∧ Moves h1 n C Lp h3 n3 Lp' ∧ Lp' < n3) ?_ ?_
  · refine Sat.sq ?_
    refine Sat.reg (by kernel_rfl) ?_
    simp -dsimp
    refine (w54 hc1 ho1 _).useH ?_
    simp -dsimp
    refine Sat.sq ?_
    refine Sat.reg (by kernel_rfl) ?_
    simp -dsimp
    have hb2 := hc1.fresh (n := n) hl1 ⟨s1.piece.1.cells, 38, 0, true⟩
    have hl2 := lt_fresh (b := ⟨s1.piece.1.cells, 38, 0, true⟩) hl1
    have hB2 : upd h1 n ⟨s1.piece.1.cells, 38, 0, true⟩ n = some ⟨s1.piece.1.cells, 38, 0, true⟩ := by rw [upd_at, if_pos rfl]
    obtain ⟨h2, hh2⟩ : ∃ h2, upd h1 n ⟨s1.piece.1.cells, 38, 0, true⟩ = h2 := ⟨_, rfl⟩
    rw [hh2] at hb2 hl2 hB2
    dsimp only [Mot.cells] at hh2
    rw [hh2]
    obtain ⟨hc2, hm2⟩ := hb2
    refine Sat.ite rfl (fun hq => ?_) (fun hq => ?_)
    · have hpush : s1.push = { s1 with pieces := s1.pieces ++ [s1.piece.1] } := by simp [CS.push, hq]
      refine Sat.drw u59_3 mixed (by kernel_rfl) (by kernel_rfl) (by kernel_rfl) (by kernel_rfl) ?_
      have hc2b := hc2.blk
      obtain ⟨hc3, hm3⟩ := hc2.fresh (n := n + 1) hl2 ⟨s1.piece.1.cells, 38, 0, true⟩
      have hB3 : upd h2 (n + 1) ⟨s1.piece.1.cells, 38, 0, true⟩ (n + 1) = some ⟨s1.piece.1.cells, 38, 0, true⟩ := by rw [upd_at, if_pos rfl]
      obtain ⟨h3, hh3⟩ : ∃ h3, upd h2 (n + 1) ⟨s1.piece.1.cells, 38, 0, true⟩ = h3 := ⟨_, rfl⟩
      rw [hh3] at hc3 hm3 hB3
      dsimp only [Mot.cells] at hh3 hB2
      obtain ⟨pv', E, Lp', ha, hfr, hl, hal, hlt', hpv⟩ := hc3.pcs.append s1.piece.1 (L := n + 2) hB3 (by omega) (by omega) (by omega)
      have hEC : eff h3 E C = some ⟨cCells mv (.slice none 0 0) pv s1, 81, 0, true⟩ := by
        rw [hfr C (by
          rcases hl with ⟨h0, rfl⟩ | ⟨_, rfl⟩
          · rcases hc3.pcs with ⟨h, _⟩ | ⟨_, h, _⟩
            · exact absurd h h0
            · exact fun e => h e.symm
          · omega)]; exact hc3.blk
      have hl3 := lt_fresh (b := ⟨s1.piece.1.cells, 38, 0, true⟩) hl2
      dsimp only [Mot.cells] at hl3
      rw [hh3] at hl3
      obtain ⟨hc4, hm4⟩ := hc3.grow hl3 hfr hl hpv hal
      obtain ⟨A', c', e'⟩ := hpv.val
      have nE := ne2 (show C < allocs (n + 2) E by omega)
      rw [show (s1.pieces ++ [s1.piece.1]).length = s1.pieces.length + 1 by simp] at e'
      subst e'
      simp -dsimp [hc2b, hB2, nC, nC1, hh3, ha, hEC, nE, -eff, -allocs, allocs_at, eff_at]
      rw [hpush]
      exact ⟨Lp', ⟨_, hc4⟩, hm2.trans (hm3.trans hm4), hlt'⟩
    · have hpush : s1.push = s1 := by simp [CS.push, hq]
      refine Sat.skip ?_
      simp -dsimp
      exact ⟨Lp, ⟨pv, by rw [hpush]; exact hc2⟩, hm2, by omega⟩
  · rintro T3 h3 n3 ⟨t0, Lp', pv', hc3, hm3, hL3⟩
    have ho2 : s1.push.Ok := by unfold CS.push; split; exact ⟨ho1.near, ho1.rate, ho1.few, ho1.idx, ho1.part, ho1.lim⟩; exact ho1
    have hi2 : s1.push.index < s1.push.ms.length := by unfold CS.push; split <;> exact hi1
    generalize s1.push = s2 at *
    refine Sat.lt fun hlt3 => ?_
    have lC3 := hlt3 C _ hc3.blk
    have nC3 := ne2 (show C < n3 by omega)
    refine Sat.sq ?_
    refine Sat.reg (by kernel_rfl) ?_
    simp -dsimp [t0]
    refine (w31 hc3 ho2 _).useH ?_
    simp -dsimp [t0, hc3.blk, nC3]
    have hc4 : CRepV (upd h3 C ⟨cCells mv (.slice none 0 0) pv' s2.toPos, 81, 0, true⟩) C Lp' s2.toPos mv (.slice none 0 0) pv' := hc3.put rfl hc3.plan rfl
    have hm4 : Moves h3 n3 C Lp' (upd h3 C ⟨cCells mv (.slice none 0 0) pv' s2.toPos, 81, 0, true⟩) n3 Lp' := hc3.moves
    obtain ⟨h4, hh4⟩ : ∃ h4, upd h3 C ⟨cCells mv (.slice none 0 0) pv' s2.toPos, 81, 0, true⟩ = h4 := ⟨_, rfl⟩
    rw [hh4] at hc4 hm4
    dsimp only [cCells, CS.toPos] at hh4
    rw [hh4]
    have ho3 : s2.toPos.Ok := ⟨ho2.near, ho2.rate, ho2.few, ho2.idx, ho2.part, ho2.lim⟩
    have hi3 : s2.toPos.index < s2.toPos.ms.length := hi2
    have hm5 := hm1.trans (hm3.trans hm4)
    generalize s2.toPos = s3 at *
    refine Sat.sq ?_
    refine Sat.reg (by kernel_rfl) ?_
    simp -dsimp [t0]
    refine (w57 hc4 ho3 hi3 _).useH ?_
    simp -dsimp
    refine Sat.ite rfl (fun hq => ?_) (fun hq => ?_)
    · have hq : s3.cur.len - s3.part = 0 := by simpa using hq
      have few3 := ho3.few
      have i0 := ho3.idx.1
      have W : IntKind.i64.wrap (s3.index + 1) = s3.index + 1 := wrap_in (by omega) (by omega)
      refine Sat.sq ?_
      refine Sat.reg (by kernel_rfl) ?_
      simp -dsimp [t0, hc4.blk, nC3, W]
      have hc5 : CRepV (upd h4 C ⟨cCells mv (.slice none 0 0) pv' { s3 with index := s3.index + 1, part := 0 }, 81, 0, true⟩) C Lp' { s3 with index := s3.index + 1, part := 0 } mv (.slice none 0 0) pv' := hc4.put rfl hc4.plan rfl
      have hm6 : Moves h4 n3 C Lp' (upd h4 C ⟨cCells mv (.slice none 0 0) pv' { s3 with index := s3.index + 1, part := 0 }, 81, 0, true⟩) n3 Lp' := hc4.moves
      obtain ⟨h5, hh5⟩ : ∃ h5, upd h4 C ⟨cCells mv (.slice none 0 0) pv' { s3 with index := s3.index + 1, part := 0 }, 81, 0, true⟩ = h5 := ⟨_, rfl⟩
      rw [hh5] at hc5 hm6
      dsimp only [cCells] at hh5
      rw [hh5]
      refine Sat.reg (by kernel_rfl) ?_
      simp -dsimp [t0]
      refine (w45 hc5 ho3.near ho3.few ⟨by simp only; omega, by simp only; omega⟩ _).useH ?_
      simp -dsimp
      refine RetQ.normal rfl ⟨rfl, Lp', .slice none 0 0, pv', ?_, hm5.trans (hm6.trans hc5.moves), hL3⟩
      have e : s3.adv = CS.skip { s3 with index := s3.index + 1, part := 0 } := by rw [CS.adv, if_pos hq]
      rw [e]
      exact hc5.put rfl hc5.plan rfl
    · have hq : ¬ s3.cur.len - s3.part = 0 := by simpa using hq
      refine Sat.skip ?_
      refine RetQ.normal rfl ⟨rfl, Lp', .slice none 0 0, pv', ?_, hm5, hL3⟩
      have e : s3.adv = s3 := by rw [CS.adv, if_neg hq]
      rw [e]; exact hc4

end Go.Proofs.Ytoinimkmoojcoaa
/- Walks, part B7. -/
set_option maxRecDepth 100000
set_option maxHeartbeats 4000000
set_option linter.unusedSimpArgs false
set_option linter.unusedVariables false
namespace Go.Proofs.Ytoinimkmoojcoaa
open Go Go.Dm
attribute [local simp ↓] RunS_nil RunS_op RunS_guard RunT_nil RunT_op RunT_guard opS_call opD_call opS_move opD_move opS_assign opD_assign opS_pick opD_pick opS_nilCheck opD_nilCheck opS_fieldAddr opD_fieldAddr opS_indexAddr opD_indexAddr opS_load opD_load opS_store opD_store opS_alloc opD_alloc opS_box opD_box opS_build opD_build opS_buildSlice opD_buildSlice opS_field opD_field opS_extract opD_extract opS_makeFunc opD_makeFunc opS_slice opD_slice opS_binOp opD_binOp opS_unOp opD_unOp opS_convert opD_convert opS_index opD_index opS_len opD_len opS_append opD_append opS_max opD_max opS_min opD_min obind_some obind_none thenH_normal thenH_ret thenH_exit blockA_normal blockA_ret blockA_exit thenA_normal thenA_ret thenA_exit dstAt_mk dstL_zero dstL_succ
attribute [local simp] undef wantG_bool wantG_undef findO_some calleeS find putA ev closed3 closed2 closed1 closed0 pickA binF unF convF mxF eqNilA fastBin fastUn fastConv intBin argEnv resultsA resultsL resultA notTuple allocs eff
  loadO storeO allocO boxO sliceO indexO indexAddrA loadA storeA newA isAggT nilCheckA lenA evAll evParts aadd gen upd_at upd_upd Value.cells mxV Pairs apart readsS labOf putAt fieldA partA extractA makeFuncA evOpt boundOf sliceA Nat.add_assoc
attribute [local simp] bu107_z bu107_0_1 bu25_0_1_2 bu36_z bu36_0_1 bu36_0_1_2 bu36_0 bu38_z bu38_0_1_2_3_4 bu38_0_1_3 bu38_0_1_3_4 bu38_1_2 bu38_1_2_3 bu52_0_1_10 bu81_0_1 bs22_0_z bs22_1_0 bs22_2_0_1 bs39_1_0 bs39_7_0_1_2_3_4_5_6 bs95_4_0_1_2_3
attribute [local simp ↓] eql107 neq107 eql36 neq36 eql38 neq38 eql25 neq25
attribute [local simp] fa25_0 fa25_1 fa25_2 fa36_0 fa36_1 fa36_2 fa38_0 fa38_1 fa38_2 fa38_3 fa38_4 fa107_0 fa107_1 fa81_0 fa81_1 fa81_2 fa81_3 fa81_4 fa81_5 fa81_6 fa81_7 fa81_8 fa81_9 fa81_10 fa52_0 fa52_1 fa52_2 fa52_3 fa52_4 fa52_5 fa52_6 fa52_7 fa52_8 fa52_9 fa52_10 fa52_11 fa52_12
attribute [local simp] c22 c39 c29 z22 z39 c25 c38 c2 c3 c4 c36 c107 c30 z25 z38 z2 z3 z4 z36 z107 b38 b25 b107 h38 h25 h36 h107 g38 g25 g36 g107 Try.underlying25 Try.underlying38 Try.underlying2 Try.underlying3 Try.underlying4 Try.underlying36 Try.underlying22 Try.underlying39 Try.underlying29 Try.underlying81 Try.underlying107 Try.underlying30
attribute [local simp] mx mn
theorem gcv_val (n k m : Nat) : ∃ A c, gcv n k m = .slice A m c := by
  unfold gcv; split
  · rename_i h; subst h; exact ⟨_, _, rfl⟩
  · exact ⟨_, _, rfl⟩
/-- What a fresh slice in normal form is. -/
theorem gc_ro {h : Heap} {n : Nat} {e : TypeId} {k m : Nat} {cells : List Value} (hlt : ∀ L b, h L = some b → L < n) (hl : cells.length = m * k) :
    RO (applyU h (gcu n e cells m false)) k (gcv n k m) cells m ∧ (∀ L, L < n → applyU h (gcu n e cells m false) L = h L) ∧ (∀ L b, applyU h (gcu n e cells m false) L = some b → L < n + 1) := by
  unfold gcu gcv
  split
  · rename_i hm
    subst hm
    have : cells = [] := List.eq_nil_of_length_eq_zero (by omega)
    subst this
    refine ⟨RO.nil, fun _ _ => rfl, fun L b hb => ?_⟩
    have := hlt L b hb; omega
  · rename_i hm
    refine ⟨⟨hl, _, _, rfl, (fun h => nomatch h), fun _ => ⟨_, ⟨cells, e, 0, false⟩, rfl, ?_, rfl, rfl, by simp only; omega, ?_⟩⟩, ?_, ?_⟩
    · show upd h n _ n = _; rw [upd_at, if_pos rfl]
    · simp only [List.drop_zero]; rw [← hl]; exact List.take_length
    · intro L hL; show upd h n _ L = _; rw [upd_at, if_neg (by omega)]
    · intro L b hb
      have hb : upd h n ⟨cells, e, 0, false⟩ L = some b := hb
      rw [upd_at] at hb; split at hb
      · omega
      · have := hlt L b hb; omega
theorem gcu_lt (n : Nat) (e : TypeId) (cells : List Value) (m : Nat) (o : Bool) : ∀ u ∈ gcu n e cells m o, u.1 < n + 1 := by
  intro u hu; unfold gcu at hu; split at hu
  · cases hu
  · simp only [List.mem_cons, List.not_mem_nil, or_false] at hu; subst hu; simp
theorem ints_closed (l : List Int) : (ints l).all closed1 = true := by
  rw [List.all_eq_true]; intro v hv; simp only [ints, List.mem_map] at hv; obtain ⟨_, _, rfl⟩ := hv; rfl
theorem ints_length (l : List Int) : (ints l).length = l.length * 1 := by simp [ints]
theorem w16' (S A j m : Int) (h : Heap) (n : Nat) (o : Bool) :
    Dm.Spec Try.prog 16 [.int .i64 m, .agg #[.int .i64 S, .int .i64 A, .int .i64 j]] h n fun r h' n' => r = .tuple #[gcv n 1 (stepsM S A j m).1.length, .int .i64 (stepsM S A j m).2] ∧ h' = applyU h (gcu n 2 (ints (stepsM S A j m).1) (stepsM S A j m).1.length o) ∧ n' = n + 1 :=
  Spec.gc (F := fun s => .tuple #[s, .int .i64 (stepsM S A j m).2]) (carries_pair rfl) (ints_closed _) (w16 S A j m h n) o
theorem w66' (S A j p q : Int) (h : Heap) (n : Nat) (o : Bool) :
    Dm.Spec Try.prog 66 [.int .i64 p, .int .i64 q, .agg #[.int .i64 S, .int .i64 A, .int .i64 j]] h n fun r h' n' => r = .tuple #[gcv n 1 (stopM S A j p q).1.length, .int .i64 (stopM S A j p q).2] ∧ h' = applyU h (gcu n 2 (ints (stopM S A j p q).1) (stopM S A j p q).1.length o) ∧ n' = n + 1 :=
  Spec.gc (F := fun s => .tuple #[s, .int .i64 (stopM S A j p q).2]) (carries_pair rfl) (ints_closed _) (w66 S A j p q h n) o
theorem CRepV.same {h h1 : Heap} {n n' C Lp : Nat} {s : CS} {mv pl pv : Value} (hc : CRepV h C Lp s mv pl pv) (hlt : ∀ L b, h L = some b → L < n) (hs : ∀ L, L < n → h1 L = h L) (hn : n ≤ n') : CRepV h1 C Lp s mv pl pv ∧ Moves h n C Lp h1 n' Lp := by
  have hf : Fz h h1 := fun L b' x _ => by rw [hs L (hlt _ _ x)]; exact x
  refine ⟨⟨by rw [hs _ (hlt _ _ hc.blk)]; exact hc.blk, hc.mot.fz hf, hc.plan.fz hf, hc.pcs.frame fun hne => ?_⟩, hn, fun L h1 _ _ => hs L h1, .inl rfl, hf⟩
  rcases hc.pcs with ⟨_, _, h1⟩ | ⟨_, _, sp, _, h3⟩
  · exact absurd h1 hne
  · exact hs _ (hlt _ _ h3)
/-- What holds of a controller between its words. -/
structure CS.Run (s : CS) : Prop where
  ok : s.Ok
  cov : 0 ≤ s.cov ∧ s.cov ≤ s.plan.length
  long : s.plan.length ≤ 1000000
  pos : ∀ x ∈ s.plan, 0 < x
  sum : s.cov < s.plan.length → s.index < s.ms.length ∧ s.part + (s.plan.drop s.cov.toNat).sum ≤ s.cur.len
def CS.steps (s : CS) : List Int × Int := stepsM (limM s.cur.rate s.S) s.A s.J (s.cur.len - s.part)
def CS.planned (s : CS) : CS := if s.resting then { s with plan := s.steps.1, cov := 0, braking := false } else s
def CS.go (s : CS) : CS := { s with part := s.part + s.plan[s.cov.toNat]!, cov := s.cov + 1 }
def CS.rest (s : CS) : CS := if s.resting then s.stop else s
/-- Whether a tick moves. -/
def CS.moves (s : CS) : Bool := !(s.broken || decide (s.index = s.ms.length)) && (!s.resting || !s.held && decide (s.steps.2 = 0) && decide (s.steps.1.length ≠ 0))
def CS.tick (s : CS) : CS := if s.moves then s.planned.go.rest else s
theorem sum_nonneg : ∀ {l : List Int}, (∀ x ∈ l, 0 < x) → 0 ≤ l.sum
  | [], _ => by simp
  | x :: l, h => by
    have := sum_nonneg (l := l) fun y hy => h y (by simp [hy])
    have := h x (by simp); simp; omega
theorem drop_sum {l : List Int} {i : Nat} (hi : i < l.length) : (l.drop i).sum = l[i]! + (l.drop (i + 1)).sum := by
  rw [List.drop_eq_getElem_cons hi, List.sum_cons, getElem!_pos l i hi]
theorem CS.Run.planned {s : CS} (hr : s.Run) (h1 : ¬ s.index = s.ms.length) (h2 : s.resting = true → s.steps.2 = 0) : s.planned.Run := by
  unfold CS.planned
  split
  · rename_i hx
    have hs := steps_sum (h2 hx)
    have hi : s.index < s.ms.length := by have := hr.ok.idx.2; omega
    refine ⟨⟨hr.ok.near, hr.ok.rate, hr.ok.few, hr.ok.idx, hr.ok.part, hr.ok.lim⟩, ⟨by simp only; omega, by simp only; omega⟩, ?_, hs.2.2.2.1, fun _ => ⟨hi, ?_⟩⟩
    · have := hs.2.2.2.2; show s.steps.1.length ≤ _; unfold CS.steps; omega
    · show s.part + (s.steps.1.drop 0).sum ≤ s.cur.len
      rw [List.drop_zero, CS.steps, hs.2.2.1]; omega
  · exact hr
theorem CS.Run.mv {s : CS} (hr : s.Run) (hm : s.moves = true) : s.broken = false ∧ s.index < s.ms.length ∧ s.planned.Run ∧ s.planned.cov < s.planned.plan.length := by
  simp only [CS.moves, Bool.and_eq_true, Bool.not_eq_true', Bool.or_eq_false_iff, decide_eq_false_iff_not, Bool.or_eq_true, decide_eq_true_eq] at hm
  obtain ⟨⟨h1, h2⟩, h3⟩ := hm
  have hi : s.index < s.ms.length := by have := hr.ok.idx.2; omega
  refine ⟨h1, hi, hr.planned h2 fun h => ?_, ?_⟩
  · rcases h3 with h3 | h3
    · rw [h] at h3; cases h3
    · exact h3.1.2
  · unfold CS.planned
    split
    · rename_i h
      rcases h3 with h3 | h3
      · rw [h] at h3; cases h3
      · have := h3.2; show (0 : Int) < s.steps.1.length; omega
    · rename_i h
      have := hr.cov.2
      simp only [CS.resting, decide_eq_true_eq] at h
      omega
theorem CS.Run.part_le {s : CS} (hr : s.Run) (h : s.cov < s.plan.length) : 0 < s.plan[s.cov.toNat]! ∧ s.part + s.plan[s.cov.toNat]! ≤ s.cur.len := by
  have h0 := hr.cov.1
  have e := drop_sum (l := s.plan) (i := s.cov.toNat) (by omega)
  have h1 := (hr.sum h).2
  have h2 := sum_nonneg (l := s.plan.drop (s.cov.toNat + 1)) fun x hx => hr.pos x (List.mem_of_mem_drop hx)
  have h3 := hr.pos _ (by rw [getElem!_pos s.plan s.cov.toNat (by omega)]; exact List.getElem_mem _ : s.plan[s.cov.toNat]! ∈ s.plan)
  exact ⟨h3, by omega⟩
theorem CS.Run.go {s : CS} (hr : s.Run) (h : s.cov < s.plan.length) : s.go.Run := by
  have hp := hr.part_le h
  have hs := hr.sum h
  have ho := hr.ok.part hs.1
  have h0 := hr.cov.1
  refine ⟨⟨hr.ok.near, hr.ok.rate, hr.ok.few, hr.ok.idx, fun _ => ⟨ho.1, ?_, hp.2⟩, hr.ok.lim⟩, ⟨?_, ?_⟩, hr.long, hr.pos, fun hc => ⟨hs.1, ?_⟩⟩
  · show 0 ≤ s.part + s.plan[s.cov.toNat]!; omega
  · show 0 ≤ s.cov + 1; omega
  · show s.cov + 1 ≤ s.plan.length; omega
  · show s.part + s.plan[s.cov.toNat]! + (s.plan.drop (s.cov + 1).toNat).sum ≤ s.cur.len
    have e := drop_sum (l := s.plan) (i := s.cov.toNat) (by omega)
    rw [show (s.cov + 1).toNat = s.cov.toNat + 1 by omega]
    omega
def CPl (h : Heap) (n C Lp : Nat) (s : CS) (mv pv : Value) (h' : Heap) (n' : Nat) : Prop := ∃ pl, CRepV h' C Lp s mv pl pv ∧ Moves h n C Lp h' n' Lp
abbrev u22_1 : List (Nat × Nat) := []
abbrev u22_6 : List (Nat × Nat) := [(1, 5), (1, 9), (1, 11), (1, 15)]
abbrev u22_10 : List (Nat × Nat) := []
theorem w22 {h : Heap} {C Lp : Nat} {s : CS} {mv pl pv : Value} (hc : CRepV h C Lp s mv pl pv) (hr : s.Run) (hpc : s.pieces.length ≤ 1000000000000) (n : Nat) (hCL : Lp < n) :
    Dm.Spec Try.prog 22 [pC C] h n fun r' h' n' => r' = .bool s.moves ∧ CPost h n C Lp s.tick mv h' n' := by
  refine Spec.body Try.func22 rfl (by kernel_rfl) Try.ntmps22 (by rw [Try.results22]) (Nat.le_of_ble_eq_true rfl) ?_
  refine Sat.lt fun hlt => ?_
  have lC := hlt C _ hc.blk
  have ho := hr.ok
  have few := ho.few
  have nC := ne2 (show C < n by omega)
  have hb := hc.blk
  obtain ⟨A, c, e⟩ := hc.mot.len
  have stay : s.moves = false → s.tick = s := fun hm => by simp [CS.tick, hm]
  refine Sat.sq ?_
  refine Sat.reg (by kernel_rfl) ?_
  simp -dsimp
  refine Sat.sq ?_
  refine Sat.sq ?_
  refine Sat.drw u22_1 mixed (by kernel_rfl) (by kernel_rfl) (by kernel_rfl) (by kernel_rfl) ?_
  cases hbr : s.broken
  · simp -dsimp [hb, hbr, e]
    refine Sat.ite rfl (fun hi => ?_) (fun hi => ?_)
    · have hi : s.index = s.ms.length := by simpa using hi
      have hm : s.moves = false := by simp [CS.moves, hi]
      refine Sat.sq ?_
      refine Sat.reg (by kernel_rfl) ?_
      simp -dsimp
      refine Sat.ret ?_
      try simp -dsimp only [thenH_ret, blockA_ret, thenA_ret]
      refine RetQ.ret (r := .bool false) (by rfl) ⟨by rw [hm], Lp, pl, pv, by rw [stay hm]; exact hc, Moves.refl .., hCL⟩
    have hi : ¬ s.index = s.ms.length := by simpa using hi
    have hi' : s.index < s.ms.length := by have := ho.idx.2; omega
    refine Sat.skip ?_
    simp -dsimp
    refine Sat.join (fun T2 h2 n2 => find T2 0 = some (pC C) ∧ s.moves = true ∧ CPl h n C Lp s.planned mv pv h2 n2) ?_ ?_
    · refine Sat.sq ?_
      refine Sat.reg (by kernel_rfl) ?_
      simp -dsimp
      refine (w55 hc _).useH ?_
      simp -dsimp
      cases hq : s.resting
      · refine Sat.cond (t := false) (by rfl) ?_
        refine Sat.skip ?_
        have hm : s.moves = true := by simp [CS.moves, hi, hbr, hq]
        have hp : s.planned = s := by simp [CS.planned, hq]
        simp -dsimp [hm]
        exact ⟨pl, by rw [hp]; exact hc, Moves.refl ..⟩
      · refine Sat.cond (t := true) (by rfl) ?_
        refine Sat.sq ?_
        refine Sat.sq ?_
        refine Sat.reg (by kernel_rfl) ?_
        simp -dsimp [hb]
        cases hh : s.held
        · refine Sat.cond (t := false) (by rfl) ?_
          refine Sat.skip ?_
          simp -dsimp
          refine Sat.sq ?_
          refine Sat.drw u22_6 mixed (by kernel_rfl) (by kernel_rfl) (by kernel_rfl) (by kernel_rfl) ?_
          obtain ⟨B, o, sp, b, hB, hbo, am⟩ := hc.mot.mot ho.idx.1 hi'
          change AtMot mv s.index s.cur B o sp b at am
          obtain ⟨F, hF, hrd⟩ := hc.reads (g := 57) fun h2 n2 hc => w57 hc ho hi' n2
          simp -dsimp
          refine callD.reads _ F hrd ?_
          simp -dsimp [hb, -indexAddrA, am.idx, ↓am.l38, hB]
          refine callD.pure (w58 _ _ _ _ _ _ _ _ _ _ _ _ (ho.rate _ (cur_mem ho.idx.1 hi')).2) ?_
          simp -dsimp
          obtain ⟨Ag, cg, eg⟩ := gcv_val n 1 s.steps.1.length
          obtain ⟨ro, hsame, hlt2⟩ := gc_ro (e := 2) hlt (ints_length s.steps.1)
          refine callD.heavy _ _ _ (by omega) (gcu_lt _ _ _ _ _) (show Dm.Spec Try.prog 16 _ h n fun r h' n' => r = .tuple #[gcv n 1 s.steps.1.length, .int .i64 s.steps.2] ∧ h' = applyU h (gcu n 2 (ints s.steps.1) s.steps.1.length false) ∧ n' = n + 1 from w16' _ _ _ _ h n false) ?_
          generalize applyU h (gcu n 2 (ints s.steps.1) s.steps.1.length false) = h2 at *
          obtain ⟨hc2, hm2⟩ := hc.same (n' := n + 1) hlt hsame (by omega)
          rw [eg] at ro
          rw [eg]
          simp -dsimp
          refine Sat.sq ?_
          refine Sat.sq ?_
          refine Sat.reg (by kernel_rfl) ?_
          by_cases he : s.steps.2 = 0
          · simp -dsimp [he]
            refine Sat.ite rfl (fun hk => ?_) (fun hk => ?_)
            · have hk : s.steps.1.length = 0 := by simpa using hk
              have hm : s.moves = false := by simp [CS.moves, hi, hbr, hq, hh, he, hk]
              refine Sat.sq ?_
              refine Sat.reg (by kernel_rfl) ?_
              simp -dsimp
              refine Sat.ret ?_
              try simp -dsimp only [thenH_ret, blockA_ret, thenA_ret]
              refine RetQ.ret (r := .bool false) (by rfl) ⟨by rw [hm], Lp, pl, pv, by rw [stay hm]; exact hc2, hm2, by omega⟩
            · have hk : ¬ s.steps.1.length = 0 := by simpa using hk
              have hm : s.moves = true := by simp [CS.moves, hi, hbr, hq, hh, he]; intro h0; exact hk (by rw [h0]; rfl)
              have hp : s.planned = { s with plan := s.steps.1, cov := 0, braking := false } := by simp [CS.planned, hq]
              have nC1 := ne2 (show C < n + 1 by omega)
              refine Sat.skip ?_
              simp -dsimp
              refine Sat.reg (by kernel_rfl) ?_
              simp -dsimp [hc2.blk, nC1, hm, hp]
              exact ⟨_, hc2.put (s' := { s with plan := s.steps.1, cov := 0, braking := false }) rfl ro rfl, hm2.trans hc2.moves⟩
          · have hm : s.moves = false := by simp [CS.moves, hi, hbr, hq, hh, he]
            simp -dsimp [he]
            refine Sat.cond (t := true) (by rfl) ?_
            refine Sat.sq ?_
            refine Sat.reg (by kernel_rfl) ?_
            simp -dsimp
            refine Sat.ret ?_
            try simp -dsimp only [thenH_ret, blockA_ret, thenA_ret]
            refine RetQ.ret (r := .bool false) (by rfl) ⟨by rw [hm], Lp, pl, pv, by rw [stay hm]; exact hc2, hm2, by omega⟩
        · have hm : s.moves = false := by simp [CS.moves, hi, hbr, hq, hh]
          refine Sat.cond (t := true) (by rfl) ?_
          refine Sat.sq ?_
          refine Sat.reg (by kernel_rfl) ?_
          simp -dsimp
          refine Sat.ret ?_
          try simp -dsimp only [thenH_ret, blockA_ret, thenA_ret]
          refine RetQ.ret (r := .bool false) (by rfl) ⟨by rw [hm], Lp, pl, pv, by rw [stay hm]; exact hc, Moves.refl .., hCL⟩
    · rintro T2 h2 n2 ⟨t0, hm, pl', hc2, hm2⟩
      obtain ⟨_, _, hr2, hcv⟩ := hr.mv hm
      have htick : s.tick = s.planned.go.rest := by simp [CS.tick, hm]
      rw [htick]
      have hpc2 : s.planned.pieces.length ≤ 1000000000000 := by unfold CS.planned; split <;> exact hpc
      generalize s.planned = s2 at *
      refine Sat.lt fun hlt2 => ?_
      have lC2 := hlt2 C _ hc2.blk
      have nC2 := ne2 (show C < n2 by omega)
      have l2 := hm2.le
      have hb2 := hc2.blk
      have h0 := hr2.cov.1
      have hp2 := hr2.part_le hcv
      have ho2 := hr2.ok.part (hr2.sum hcv).1
      have hl2 := Mot.len_in (hr2.ok.near _ (cur_mem hr2.ok.idx.1 (hr2.sum hcv).1))
      obtain ⟨B, o, sp, b, hB, hbo, idx, ld⟩ := hc2.plan.int h0 hcv
      have lg := hr2.long
      refine Sat.sq ?_
      refine Sat.drw u22_10 mixed (by kernel_rfl) (by kernel_rfl) (by kernel_rfl) (by kernel_rfl) ?_
      have W : IntKind.i64.wrap (s2.part + s2.plan[s2.cov.toNat]!) = s2.part + s2.plan[s2.cov.toNat]! := wrap_in (by omega) (by omega)
      have hgo : s2.go = { s2 with part := s2.part + s2.plan[s2.cov.toNat]!, cov := s2.cov + 1 } := rfl
      have hrg := hr2.go hcv
      have hpg : s2.go.pieces.length ≤ 1000000000000 := hpc2
      have hcg : s2.go.index < s2.go.ms.length := (hr2.sum hcv).1
      generalize s2.plan[s2.cov.toNat]! = d at *
      simp -dsimp [t0, hb2, -indexAddrA, idx, ↓ld, hB, W, nC2]
      have W2 : IntKind.i64.wrap (s2.cov + 1) = s2.cov + 1 := wrap_in (by omega) (by omega)
      refine Sat.sq ?_
      refine Sat.reg (by kernel_rfl) ?_
      simp -dsimp [t0, W2, nC2]
      have hc3 : CRepV (upd h2 C ⟨cCells mv pl' pv s2.go, 81, 0, true⟩) C Lp s2.go mv pl' pv := hc2.put (by rw [hgo]) (by rw [hgo]; exact hc2.plan) (by rw [hgo])
      have hm3 : Moves h2 n2 C Lp (upd h2 C ⟨cCells mv pl' pv s2.go, 81, 0, true⟩) n2 Lp := hc2.moves
      obtain ⟨h3, hh3⟩ : ∃ h3, upd h2 C ⟨cCells mv pl' pv s2.go, 81, 0, true⟩ = h3 := ⟨_, rfl⟩
      rw [hh3] at hc3 hm3
      rw [hgo] at hh3
      dsimp only [cCells] at hh3
      rw [hh3]
      have hm4 := hm2.trans hm3
      clear hgo hh3
      generalize s2.go = s3 at *
      refine Sat.sq ?_
      refine Sat.sq ?_
      refine Sat.reg (by kernel_rfl) ?_
      simp -dsimp [t0]
      refine (w55 hc3 _).useH ?_
      simp -dsimp
      refine Sat.ite rfl (fun hq => ?_) (fun hq => ?_)
      · have hq : s3.resting = true := by simpa using hq
        refine Sat.reg (by kernel_rfl) ?_
        simp -dsimp [t0]
        refine (w59 hc3 hrg.ok hcg hpg n2 (by omega)).onH ?_
        rintro r h4 n4 ⟨rfl, Lp', pl4, pv4, hc4, hm5, hl5⟩
        simp -dsimp
        refine Sat.sq ?_
        refine Sat.reg (by kernel_rfl) ?_
        simp -dsimp
        refine Sat.ret ?_
        try simp -dsimp only [thenH_ret, blockA_ret, thenA_ret]
        refine RetQ.ret (r := .bool true) (by rfl) ⟨by rw [hm], Lp', pl4, pv4, ?_, hm4.trans hm5, hl5⟩
        simp only [CS.rest, hq, if_true]; exact hc4
      · have hq : s3.resting = false := by simpa using hq
        refine Sat.skip ?_
        simp -dsimp
        refine Sat.sq ?_
        refine Sat.reg (by kernel_rfl) ?_
        simp -dsimp
        refine Sat.ret ?_
        try simp -dsimp only [thenH_ret, blockA_ret, thenA_ret]
        refine RetQ.ret (r := .bool true) (by rfl) ⟨by rw [hm], Lp, pl', pv, ?_, hm4, by omega⟩
        simp only [CS.rest, hq, if_false, Bool.false_eq_true]; exact hc3
  · have hm : s.moves = false := by simp [CS.moves, hbr]
    simp -dsimp [hb, hbr, e]
    refine Sat.cond (t := true) (by rfl) ?_
    refine Sat.sq ?_
    refine Sat.reg (by kernel_rfl) ?_
    simp -dsimp
    refine Sat.ret ?_
    try simp -dsimp only [thenH_ret, blockA_ret, thenA_ret]
    refine RetQ.ret (r := .bool false) (by rfl) ⟨by rw [hm], Lp, pl, pv, by rw [stay hm]; exact hc, Moves.refl .., hCL⟩

end Go.Proofs.Ytoinimkmoojcoaa
/- Walks, part B8. -/
set_option maxRecDepth 100000
set_option maxHeartbeats 4000000
set_option linter.unusedSimpArgs false
set_option linter.unusedVariables false
namespace Go.Proofs.Ytoinimkmoojcoaa
open Go Go.Dm
attribute [local simp ↓] RunS_nil RunS_op RunS_guard RunT_nil RunT_op RunT_guard opS_call opD_call opS_move opD_move opS_assign opD_assign opS_pick opD_pick opS_nilCheck opD_nilCheck opS_fieldAddr opD_fieldAddr opS_indexAddr opD_indexAddr opS_load opD_load opS_store opD_store opS_alloc opD_alloc opS_box opD_box opS_build opD_build opS_buildSlice opD_buildSlice opS_field opD_field opS_extract opD_extract opS_makeFunc opD_makeFunc opS_slice opD_slice opS_binOp opD_binOp opS_unOp opD_unOp opS_convert opD_convert opS_index opD_index opS_len opD_len opS_append opD_append opS_max opD_max opS_min opD_min obind_some obind_none thenH_normal thenH_ret thenH_exit blockA_normal blockA_ret blockA_exit thenA_normal thenA_ret thenA_exit dstAt_mk dstL_zero dstL_succ
attribute [local simp] undef wantG_bool wantG_undef findO_some calleeS find putA ev closed3 closed2 closed1 closed0 pickA binF unF convF mxF eqNilA fastBin fastUn fastConv intBin argEnv resultsA resultsL resultA notTuple allocs eff
  loadO storeO allocO boxO sliceO indexO indexAddrA loadA storeA newA isAggT nilCheckA lenA evAll evParts aadd gen upd_at upd_upd Value.cells mxV Pairs apart readsS labOf putAt fieldA partA extractA makeFuncA evOpt boundOf sliceA Nat.add_assoc
attribute [local simp] bu107_z bu107_0_1 bu25_0_1_2 bu36_z bu36_0_1 bu36_0_1_2 bu36_0 bu38_z bu38_0_1_2_3_4 bu38_0_1_3 bu38_0_1_3_4 bu38_1_2 bu38_1_2_3 bu52_0_1_10 bu81_0_1 bs22_0_z bs22_1_0 bs22_2_0_1 bs39_1_0 bs39_7_0_1_2_3_4_5_6 bs95_4_0_1_2_3
attribute [local simp ↓] eql107 neq107 eql36 neq36 eql38 neq38 eql25 neq25
attribute [local simp] fa25_0 fa25_1 fa25_2 fa36_0 fa36_1 fa36_2 fa38_0 fa38_1 fa38_2 fa38_3 fa38_4 fa107_0 fa107_1 fa81_0 fa81_1 fa81_2 fa81_3 fa81_4 fa81_5 fa81_6 fa81_7 fa81_8 fa81_9 fa81_10 fa52_0 fa52_1 fa52_2 fa52_3 fa52_4 fa52_5 fa52_6 fa52_7 fa52_8 fa52_9 fa52_10 fa52_11 fa52_12
attribute [local simp] c22 c39 c29 z22 z39 c25 c38 c2 c3 c4 c36 c107 c30 z25 z38 z2 z3 z4 z36 z107 b38 b25 b107 h38 h25 h36 h107 g38 g25 g36 g107 Try.underlying25 Try.underlying38 Try.underlying2 Try.underlying3 Try.underlying4 Try.underlying36 Try.underlying22 Try.underlying39 Try.underlying29 Try.underlying81 Try.underlying107 Try.underlying30
attribute [local simp] mx mn
def clonePost (A : Option Addr) (m : Nat) (cells : List Value) (h : Heap) (n : Nat) (r : Value) (h' : Heap) (n' : Nat) : Prop :=
  (A = none → r = .slice none 0 0 ∧ h' = h ∧ n' = n) ∧ (A ≠ none → m = 0 → r = .slice (some ⟨n, 0, none⟩) 0 1 ∧ h' = upd h n ⟨[], 38, 0, true⟩ ∧ n' = n + 1) ∧
      (0 < m → r = .slice (some ⟨n + 1, 0, none⟩) m 11 ∧ h' = upd (upd h n ⟨[], 38, 0, true⟩) (n + 1) ⟨cells, 38, 0, true⟩ ∧ n' = n + 2)
theorem w44raw (v : Value) (A : Option Addr) (m c : Nat) (cells : List Value) (hv : v = .slice A m c) (hn : A = none → m = 0 ∧ c = 0) (h : Heap) (hx : sliceCells Try.prog h 9 v = some cells) (hl : cells.length = m * 9) (hm : m ≤ 1000000000000) (n : Nat) (hlt : ∀ L b, h L = some b → L < n) :
    Dm.Spec Try.prog 44 [v] h n (clonePost A m cells h n) := by
  subst hv
  refine Spec.body Try.func44 rfl (by kernel_rfl) Try.ntmps44 (by rw [Try.results44]) (Nat.le_of_ble_eq_true rfl) ?_
  refine Sat.sq ?_
  refine Sat.reg (by kernel_rfl) ?_
  simp -dsimp
  refine Sat.sq ?_
  refine Sat.sq ?_
  refine Sat.reg (by kernel_rfl) ?_
  cases A with
  | none =>
    obtain ⟨rfl, rfl⟩ := hn rfl
    simp -dsimp
    refine Sat.cond (t := true) (by rfl) ?_
    refine Sat.sq ?_
    refine Sat.reg (by kernel_rfl) ?_
    simp -dsimp
    refine Sat.ret ?_
    try simp -dsimp only [thenH_ret, blockA_ret, thenA_ret]
    refine RetQ.ret (r := .slice none 0 0) (by rfl) ⟨fun _ => ⟨rfl, rfl, rfl⟩, fun h => absurd rfl h, fun h => absurd h (by omega)⟩
  | some a =>
    simp -dsimp
    refine Sat.cond (t := false) (by rfl) ?_
    refine Sat.skip ?_
    simp -dsimp
    refine Sat.sq ?_
    refine Sat.reg (by kernel_rfl) ?_
    by_cases hm0 : m = 0
    · subst hm0
      simp -dsimp [appendA]
      refine Sat.ret ?_
      try simp -dsimp only [thenH_ret, blockA_ret, thenA_ret]
      refine RetQ.ret (r := .slice (some ⟨n, 0, none⟩) 0 1) (by rfl) ⟨fun h => (nomatch h), fun _ _ => ⟨rfl, rfl, rfl⟩, fun h => absurd h (by omega)⟩
    · have hx' : sliceCells Try.prog (upd h n ⟨[], 38, 0, true⟩) 9 (.slice (some a) m c) = some cells := by
        obtain ⟨k, rfl⟩ : ∃ j, m = j + 1 := ⟨m - 1, by omega⟩
        rw [← hx]
        simp only [sliceCells]
        cases hb : h a.block with
        | none => simp only [sliceCells, hb] at hx; cases hx
        | some b => rw [upd_at, if_neg (by have := hlt _ _ hb; omega), hb]
      have ha : appendA Try.prog (upd h n ⟨[], 38, 0, true⟩) 22 (.slice (some ⟨n, 0, none⟩) 0 1) (.slice (some a) m c) (n + 1) = some (.slice (some ⟨n + 1, 0, none⟩) m 11, some (n + 1, ⟨cells, 38, 0, true⟩)) := by
        unfold appendA
        simp only [Try.underlying22, c38, if_pos (show 0 < 9 by omega), if_neg hm0, hx', z38, b38]
        have e0 : sliceCells Try.prog (upd h n ⟨[], 38, 0, true⟩) 9 (.slice (some ⟨n, 0, none⟩) 0 1) = some [] := by simp [sliceCells]
        rw [e0]
        simp
        omega
      simp -dsimp [ha]
      refine Sat.ret ?_
      try simp -dsimp only [thenH_ret, blockA_ret, thenA_ret]
      refine RetQ.ret (r := .slice (some ⟨n + 1, 0, none⟩) m 11) (by rfl) ⟨fun h => (nomatch h), fun _ h => absurd h hm0, fun _ => ⟨rfl, rfl, rfl⟩⟩
/-- A clone that can grow, or that nobody changes, in normal form. -/
theorem w44 (v : Value) (A : Option Addr) (m c : Nat) (cells : List Value) (hv : v = .slice A m c) (hn : A = none → m = 0 ∧ c = 0) (hA : A = none ∨ 0 < m) (h : Heap) (hx : sliceCells Try.prog h 9 v = some cells) (hl : cells.length = m * 9) (hcl : cells.all closed1 = true) (hm : m ≤ 1000000000000) (n : Nat) (hlt : ∀ L b, h L = some b → L < n) (o : Bool) :
    Dm.Spec Try.prog 44 [v] h n fun r h' n' => r = gcv n 9 m ∧ h' = applyU h (gcu n 38 cells m o) ∧ n' = n + 1 := by
  refine Spec.gc (F := fun s => s) carries_id hcl ((w44raw v A m c cells hv hn h hx hl hm n hlt).mono ?_) o
  rintro r h' n' ⟨p1, p2, p3⟩
  rcases hA with rfl | hA
  · obtain ⟨rfl, rfl, rfl⟩ := p1 rfl
    obtain ⟨rfl, _⟩ := hn rfl
    have : cells = [] := List.eq_nil_of_length_eq_zero (by omega)
    subst this
    exact ⟨Nat.le_refl _, fun _ _ => rfl, _, rfl, .nil⟩
  · obtain ⟨rfl, rfl, rfl⟩ := p3 hA
    refine ⟨by omega, fun L hL => by rw [upd_at, if_neg (by omega), upd_at, if_neg (by omega)], _, rfl, .inr ⟨hA, n + 1, none, rfl, by rw [upd_at, if_pos rfl]; rfl, hl, by omega, by omega⟩⟩

end Go.Proofs.Ytoinimkmoojcoaa
/- Walks, part B9. -/
set_option maxRecDepth 100000
set_option maxHeartbeats 4000000
set_option linter.unusedSimpArgs false
set_option linter.unusedVariables false
namespace Go.Proofs.Ytoinimkmoojcoaa
open Go Go.Dm
attribute [local simp ↓] RunS_nil RunS_op RunS_guard RunT_nil RunT_op RunT_guard opS_call opD_call opS_move opD_move opS_assign opD_assign opS_pick opD_pick opS_nilCheck opD_nilCheck opS_fieldAddr opD_fieldAddr opS_indexAddr opD_indexAddr opS_load opD_load opS_store opD_store opS_alloc opD_alloc opS_box opD_box opS_build opD_build opS_buildSlice opD_buildSlice opS_field opD_field opS_extract opD_extract opS_makeFunc opD_makeFunc opS_slice opD_slice opS_binOp opD_binOp opS_unOp opD_unOp opS_convert opD_convert opS_index opD_index opS_len opD_len opS_append opD_append opS_max opD_max opS_min opD_min obind_some obind_none thenH_normal thenH_ret thenH_exit blockA_normal blockA_ret blockA_exit thenA_normal thenA_ret thenA_exit dstAt_mk dstL_zero dstL_succ
attribute [local simp] undef wantG_bool wantG_undef findO_some calleeS find putA ev closed3 closed2 closed1 closed0 pickA binF unF convF mxF eqNilA fastBin fastUn fastConv intBin argEnv resultsA resultsL resultA notTuple allocs eff
  loadO storeO allocO boxO sliceO indexO indexAddrA loadA storeA newA isAggT nilCheckA lenA evAll evParts aadd gen upd_at upd_upd Value.cells mxV Pairs apart readsS labOf putAt fieldA partA extractA makeFuncA evOpt boundOf sliceA Nat.add_assoc
attribute [local simp] bu107_z bu107_0_1 bu25_0_1_2 bu36_z bu36_0_1 bu36_0_1_2 bu36_0 bu38_z bu38_0_1_2_3_4 bu38_0_1_3 bu38_0_1_3_4 bu38_1_2 bu38_1_2_3 bu52_0_1_10 bu81_0_1 bs22_0_z bs22_1_0 bs22_2_0_1 bs39_1_0 bs39_7_0_1_2_3_4_5_6 bs95_4_0_1_2_3
attribute [local simp ↓] eql107 neq107 eql36 neq36 eql38 neq38 eql25 neq25
attribute [local simp] fa25_0 fa25_1 fa25_2 fa36_0 fa36_1 fa36_2 fa38_0 fa38_1 fa38_2 fa38_3 fa38_4 fa107_0 fa107_1 fa81_0 fa81_1 fa81_2 fa81_3 fa81_4 fa81_5 fa81_6 fa81_7 fa81_8 fa81_9 fa81_10 fa52_0 fa52_1 fa52_2 fa52_3 fa52_4 fa52_5 fa52_6 fa52_7 fa52_8 fa52_9 fa52_10 fa52_11 fa52_12
attribute [local simp] c22 c39 c29 z22 z39 c25 c38 c2 c3 c4 c36 c107 c30 z25 z38 z2 z3 z4 z36 z107 b38 b25 b107 h38 h25 h36 h107 g38 g25 g36 g107 Try.underlying25 Try.underlying38 Try.underlying2 Try.underlying3 Try.underlying4 Try.underlying36 Try.underlying22 Try.underlying39 Try.underlying29 Try.underlying81 Try.underlying107 Try.underlying30
attribute [local simp] mx mn
theorem PV.cells {h : Heap} {C Lp : Nat} {pv : Value} {l : List Mot} (hp : PV h C Lp pv l) : sliceCells Try.prog h 9 pv = some (motCells l) := by
  rcases hp with ⟨rfl, rfl, rfl⟩ | ⟨h0, h1, sp, rfl, h3⟩
  · rfl
  · have hlen := motCells_length l
    obtain ⟨k, hk⟩ : ∃ j, l.length = j + 1 := ⟨l.length - 1, by have := List.length_pos_iff.2 h0; omega⟩
    rw [hk]
    simp only [sliceCells, h3, gen]
    rw [hk] at hlen
    simp [hlen]
    rw [← hlen]; exact List.take_length
theorem RO.cells {h : Heap} {v : Value} {l : List Mot} (hr : RO h 9 v (motCells l) l.length) : sliceCells Try.prog h 9 v = some (motCells l) := by
  obtain ⟨h1, A, c, rfl, h3, h4⟩ := hr
  cases hm : l.length with
  | zero =>
    have : l = [] := List.eq_nil_of_length_eq_zero hm
    subst this
    cases A <;> rfl
  | succ m =>
    obtain ⟨a, b, rfl, x2, x3, x4, x5, x6⟩ := h4 (by omega)
    rw [hm] at x5 x6
    simp only [sliceCells, x2, x4]
    rw [if_pos ⟨by first | trivial | rfl, by omega⟩, x6]
theorem gc_gs {h : Heap} {n : Nat} {e : TypeId} {k m : Nat} {cells : List Value} (hl : cells.length = m * k) : GS (applyU h (gcu n e cells m true)) e k (gcv n k m) cells m n (n + 1) := by
  unfold gcu gcv
  split
  · rename_i hm
    subst hm
    have : cells = [] := List.eq_nil_of_length_eq_zero (by omega)
    subst this
    exact .nil
  · exact .inr ⟨by omega, n, none, rfl, by show upd h n _ n = _; rw [upd_at, if_pos rfl]; rfl, hl, by omega, by omega⟩
theorem gc_same {h : Heap} {n : Nat} {e : TypeId} {m : Nat} {cells : List Value} {o : Bool} (hlt : ∀ L b, h L = some b → L < n) :
    (∀ L, L < n → applyU h (gcu n e cells m o) L = h L) ∧ (∀ L b, applyU h (gcu n e cells m o) L = some b → L < n + 1) := by
  unfold gcu
  split
  · refine ⟨fun _ _ => rfl, fun L b hb => ?_⟩
    have := hlt L b hb; omega
  · refine ⟨fun L hL => by show upd h n _ L = _; rw [upd_at, if_neg (by omega)], fun L b hb => ?_⟩
    have hb : upd h n ⟨cells, e, 0, o⟩ L = some b := hb
    rw [upd_at] at hb; split at hb
    · omega
    · have := hlt L b hb; omega
def CS.done (s : CS) : List Mot := s.pieces ++ (if s.piece.2 && !s.resting then [s.piece.1] else [])
def donePost (s : CS) (h : Heap) (n : Nat) (r : Value) (h' : Heap) (n' : Nat) : Prop := n ≤ n' ∧ (∀ L, L < n → h' L = h L) ∧ ∃ s', r = s' ∧ GS h' 38 9 s' (motCells s.done) s.done.length n n'
theorem w20raw {h : Heap} {C Lp : Nat} {s : CS} {mv pl pv : Value} (hc : CRepV h C Lp s mv pl pv) (ho : s.Ok) (hpc : s.pieces.length ≤ 100000000000) (n : Nat) :
    Dm.Spec Try.prog 20 [pC C] h n (donePost s h n) := by
  refine Spec.body Try.func20 rfl (by kernel_rfl) Try.ntmps20 (by rw [Try.results20]) (Nat.le_of_ble_eq_true rfl) ?_
  refine Sat.lt fun hlt => ?_
  have lC := hlt C _ hc.blk
  have nC := ne2 (show C < n by omega)
  have nC1 := ne2 (show C < n + 1 by omega)
  have hb := hc.blk
  obtain ⟨A, c, e⟩ := hc.pcs.val
  have hA : (A = none → s.pieces.length = 0 ∧ c = 0) ∧ (A = none ∨ 0 < s.pieces.length) := by
    rcases hc.pcs with ⟨h0, h1, _⟩ | ⟨h0, h1, sp, h2, _⟩
    · rw [h1] at e; injection e with e1 e2 e3; exact ⟨fun _ => ⟨e2.symm, e3.symm⟩, .inl e1.symm⟩
    · rw [h2] at e; injection e with e1 e2 e3; exact ⟨fun h => (by rw [h] at e1; cases e1), .inr (List.length_pos_iff.2 h0)⟩
  refine Sat.sq ?_
  refine Sat.reg (by kernel_rfl) ?_
  simp -dsimp
  refine Sat.sq ?_
  refine Sat.reg (by kernel_rfl) ?_
  simp -dsimp [hb]
  refine (w44 pv A s.pieces.length c (motCells s.pieces) e hA.1 hA.2 h hc.pcs.cells (motCells_length _) (motCells_closed _) (by omega) n hlt true).useH ?_
  obtain ⟨Ag, cg, eg⟩ := gcv_val n 9 s.pieces.length
  have hg := gc_gs (h := h) (n := n) (e := 38) (motCells_length s.pieces)
  obtain ⟨hsame, hlt2⟩ := gc_same (e := 38) (cells := motCells s.pieces) (m := s.pieces.length) (o := true) hlt
  generalize applyU h (gcu n 38 (motCells s.pieces) s.pieces.length true) = h2 at *
  obtain ⟨hc2, hm2⟩ := hc.same (n' := n + 1) hlt hsame (by omega)
  rw [eg] at hg
  rw [eg]
  simp -dsimp
  refine Sat.join (fun T3 h3 n3 => n ≤ n3 ∧ (∀ L, L < n → h3 L = h L) ∧ ∃ s', find T3 3 = some s' ∧ GS h3 38 9 s' (motCells s.done) s.done.length n n3) ?_ ?_
  · refine Sat.sq ?_
    refine Sat.reg (by kernel_rfl) ?_
    simp -dsimp
    refine (w54 hc2 ho _).useH ?_
    simp -dsimp [nC1]
    obtain ⟨hc3, hm3⟩ := hc2.fresh (n := n + 1) hlt2 ⟨s.piece.1.cells, 38, 0, true⟩
    have hg3 : GS (upd h2 (n + 1) ⟨s.piece.1.cells, 38, 0, true⟩) 38 9 (.slice Ag s.pieces.length cg) (motCells s.pieces) s.pieces.length n (n + 1) := hg.frame (fun L _ h2 => by rw [upd_at, if_neg (by omega)]) (by omega)
    have hs3 : ∀ L, L < n → upd h2 (n + 1) ⟨s.piece.1.cells, 38, 0, true⟩ L = h L := fun L hL => by rw [upd_at, if_neg (by omega)]; exact hsame L hL
    have hp3 : upd h2 (n + 1) ⟨s.piece.1.cells, 38, 0, true⟩ (n + 1) = some ⟨s.piece.1.cells, 38, 0, true⟩ := by rw [upd_at, if_pos rfl]
    obtain ⟨h3, hh3⟩ : ∃ h3, upd h2 (n + 1) ⟨s.piece.1.cells, 38, 0, true⟩ = h3 := ⟨_, rfl⟩
    rw [hh3] at hc3 hm3 hg3 hs3 hp3
    dsimp only [Mot.cells] at hh3 hp3
    rw [hh3]
    refine Sat.sq ?_
    refine Sat.reg (by kernel_rfl) ?_
    cases hq : s.piece.2
    · have hd : s.done = s.pieces := by simp [CS.done, hq]
      simp -dsimp [hq]
      refine Sat.cond (t := false) (by rfl) ?_
      refine Sat.skip ?_
      rw [hd]
      simp -dsimp
      exact ⟨hs3, hg3.frame (fun _ _ _ => rfl) (by omega)⟩
    · simp -dsimp [hq]
      refine (w55 hc3 _).useH ?_
      simp -dsimp
      cases hq2 : s.resting
      · have hd : s.done = s.pieces ++ [s.piece.1] := by simp [CS.done, hq, hq2]
        simp -dsimp
        refine Sat.cond (t := true) (by rfl) ?_
        refine Sat.reg (by kernel_rfl) ?_
        have hg4 : GS (upd h3 (n + 2) ⟨s.piece.1.cells, 38, 0, true⟩) 38 9 (.slice Ag s.pieces.length cg) (motCells s.pieces) s.pieces.length n (n + 1) := hg3.frame (fun L _ h2 => by rw [upd_at, if_neg (by omega)]) (by omega)
        obtain ⟨s', E, ha, hfr, hal, hal2, hg5⟩ := hg4.append (P := Try.prog) (t := 22) (L := n + 3) (B := n + 2) (xs := s.piece.1.cells) (bo := true) (by' := 72) Try.underlying22 c38 b38 z38 rfl (by omega) (by omega) (by rw [upd_at, if_pos rfl]) rfl (by omega) (by omega) (by omega)
        have hs5 : ∀ L, L < n → eff (upd h3 (n + 2) ⟨s.piece.1.cells, 38, 0, true⟩) E L = h L := fun L hL => by
          rw [hfr _ (by omega), upd_at, if_neg (by omega)]; exact hs3 L hL
        dsimp only [Mot.cells] at ha hg5 hs5 hfr
        simp -dsimp [hp3, ha, -eff, -allocs]
        refine ⟨by omega, hs5, ?_⟩
        rw [hd, motCells_append, List.length_append, List.length_singleton, show motCells [s.piece.1] = s.piece.1.cells by simp [motCells]]
        exact hg5
      · have hd : s.done = s.pieces := by simp [CS.done, hq, hq2]
        simp -dsimp
        refine Sat.cond (t := false) (by rfl) ?_
        refine Sat.skip ?_
        rw [hd]
        simp -dsimp
        exact ⟨hs3, hg3.frame (fun _ _ _ => rfl) (by omega)⟩
  · rintro T3 h3 n3 ⟨hn3, hs3, s', t3, hg3⟩
    obtain ⟨A', c', e'⟩ := hg3.val
    refine Sat.sq ?_
    refine Sat.reg (by kernel_rfl) ?_
    simp -dsimp [t3]
    refine Sat.ret ?_
    try simp -dsimp only [thenH_ret, blockA_ret, thenA_ret]
    subst e'
    refine RetQ.ret (r := .slice A' s.done.length c') (by rfl) ⟨hn3, hs3, _, rfl, hg3⟩
theorem w20 {h : Heap} {C Lp : Nat} {s : CS} {mv pl pv : Value} (hc : CRepV h C Lp s mv pl pv) (ho : s.Ok) (hpc : s.pieces.length ≤ 100000000000) (n : Nat) (o : Bool) :
    Dm.Spec Try.prog 20 [pC C] h n fun r h' n' => r = gcv n 9 s.done.length ∧ h' = applyU h (gcu n 38 (motCells s.done) s.done.length o) ∧ n' = n + 1 :=
  Spec.gc (F := fun s => s) carries_id (motCells_closed _) (w20raw hc ho hpc n) o

end Go.Proofs.Ytoinimkmoojcoaa
