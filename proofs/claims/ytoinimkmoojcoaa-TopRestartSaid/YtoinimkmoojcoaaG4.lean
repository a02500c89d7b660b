/- Walks, part A1. -/
import Derived.Test.YtoinimkmoojcoaaG3
import Derived.Test.YtoinimkmoojcoaaG2
set_option maxRecDepth 100000
set_option maxHeartbeats 4000000
set_option linter.unusedSimpArgs false
set_option linter.unusedVariables false
namespace Go.Proofs.Ytoinimkmoojcoaa
open Go Go.Dm
attribute [local simp ↓] RunS_nil RunS_op RunS_guard RunT_nil RunT_op RunT_guard opS_call opD_call opS_move opD_move opS_assign opD_assign opS_pick opD_pick opS_nilCheck opD_nilCheck opS_fieldAddr opD_fieldAddr opS_indexAddr opD_indexAddr opS_load opD_load opS_store opD_store opS_alloc opD_alloc opS_box opD_box opS_build opD_build opS_buildSlice opD_buildSlice opS_field opD_field opS_extract opD_extract opS_makeFunc opD_makeFunc opS_slice opD_slice opS_binOp opD_binOp opS_unOp opD_unOp opS_convert opD_convert opS_index opD_index opS_len opD_len opS_append opD_append opS_max opD_max opS_min opD_min obind_some obind_none thenH_normal thenH_ret thenH_exit blockA_normal blockA_ret blockA_exit thenA_normal thenA_ret thenA_exit dstAt_mk dstL_zero dstL_succ
attribute [local simp] wantG_bool wantG_undef findO_some calleeS find putA ev closed3 closed2 closed1 closed0 pickA binF unF convF mxF eqNilA fastBin fastUn fastConv intBin argEnv resultsA resultsL resultA notTuple allocs eff
  loadO storeO allocO boxO sliceO indexO indexAddrA loadA storeA newA buildA buildSliceA isAggT nilCheckA lenA evAll evParts aadd gen upd_at upd_upd Value.cells mxV Pairs apart readsS labOf putAt fieldA partA extractA makeFuncA evOpt boundOf sliceA Nat.add_assoc
attribute [local simp] fa25_0 fa25_1 fa25_2 fa36_0 fa36_1 fa36_2 fa38_0 fa38_1 fa38_2 fa38_3 fa38_4 fa107_0 fa107_1 fa81_0 fa81_1 fa81_2 fa81_3 fa81_4 fa81_5 fa81_6 fa81_7 fa81_8 fa81_9 fa81_10 fa52_0 fa52_1 fa52_2 fa52_3 fa52_4 fa52_5 fa52_6 fa52_7 fa52_8 fa52_9 fa52_10 fa52_11 fa52_12
attribute [local simp] c25 c38 c2 c3 c4 c36 c107 c30 z25 z38 z2 z3 z4 z36 z107 b38 b25 b107 h38 h25 h36 h107 g38 g25 g36 g107 Try.underlying25 Try.underlying38 Try.underlying2 Try.underlying3 Try.underlying4 Try.underlying36 Try.underlying22 Try.underlying39 Try.underlying29 Try.underlying81 Try.underlying107 Try.underlying30
theorem w74 (a b c : Int) : Pure Try.prog 74 [.int .i64 a, .int .i64 b, .int .i64 c] (.bool (withinB a b c)) := by
  refine Pure.of_body Try.func74 rfl (by kernel_rfl) Try.ntmps74 (by rw [Try.results74]) (Nat.le_of_ble_eq_true rfl) fun h n => ?_
  refine Sat.sq ?_
  refine Sat.reg (by kernel_rfl) ?_
  simp -dsimp
  refine Sat.sq ?_
  refine Sat.reg (by kernel_rfl) ?_
  by_cases hb : b ≤ a
  · simp -dsimp [hb]
    refine Sat.ret (PureQ.ret rfl keep_refl ?_)
    simp -dsimp [withinB, hb]
  · simp -dsimp [hb]
    refine Sat.ret (PureQ.ret rfl keep_refl ?_)
    simp -dsimp [withinB, hb]
theorem floor_eq {a b : Int} (hb : 0 < b) : a / b = if a.tmod b < 0 then a.tdiv b - 1 else a.tdiv b := by
  have h4 := Int.emod_nonneg a (show b ≠ 0 by omega)
  have h5 := Int.emod_lt_of_pos a hb
  rw [Int.tdiv_eq_ediv, Int.tmod_eq_emod, Int.sign_eq_one_of_pos hb]
  by_cases h : 0 ≤ a ∨ b ∣ a
  · rw [if_pos h, if_pos h, if_neg (by omega)]; omega
  · rw [if_neg h, if_neg h, if_pos (by omega)]; omega
theorem ediv_range {a b : Int} (hb : 0 < b) {k : Int} (hk : 0 ≤ k) (h1 : -k ≤ a) (h2 : a ≤ k) : -k ≤ a / b ∧ a / b ≤ k := by
  have h3 : k * 1 ≤ k * b := Int.mul_le_mul_of_nonneg_left (by omega) hk
  constructor
  · rw [Int.le_ediv_iff_mul_le hb, Int.neg_mul]; omega
  · have : a / b < k + 1 := by rw [Int.ediv_lt_iff_lt_mul hb, Int.add_mul]; omega
    omega
theorem w83 (a b : Int) (hb : 0 < b) (h1 : -4611686018427387904 ≤ a) (h2 : a ≤ 4611686018427387904) : Pure Try.prog 83 [.int .i64 a, .int .i64 b] (.int .i64 (a / b)) := by
  refine Pure.of_body Try.func83 rfl (by kernel_rfl) Try.ntmps83 (by rw [Try.results83]) (Nat.le_of_ble_eq_true rfl) fun h n => ?_
  have hb0 : ¬ b = 0 := by omega
  refine Sat.sq ?_
  refine Sat.reg (by kernel_rfl) ?_
  simp -dsimp
  refine Sat.sq ?_
  refine Sat.reg (by kernel_rfl) ?_
  simp -dsimp [hb0]
  refine Sat.sq ?_
  refine Sat.sq ?_
  refine Sat.reg (by kernel_rfl) ?_
  simp -dsimp [hb0]
  refine Sat.ite rfl (fun hc => ?_) (fun hc => ?_)
  · simp at hc
    refine Sat.reg (by kernel_rfl) ?_
    simp -dsimp
    refine Sat.sq ?_
    refine Sat.reg (by kernel_rfl) ?_
    simp -dsimp
    refine Sat.ret (PureQ.ret rfl keep_refl ?_)
    have e := floor_eq (a := a) hb
    rw [if_pos hc] at e
    have r := ediv_range hb (k := 4611686018427387904) (by omega) (by omega) (by omega)
    simp -dsimp
    simp -dsimp (disch := omega) only [wrap_in]
    omega
  · simp at hc
    refine Sat.skip ?_
    simp -dsimp
    refine Sat.sq ?_
    refine Sat.reg (by kernel_rfl) ?_
    simp -dsimp
    refine Sat.ret (PureQ.ret rfl keep_refl ?_)
    have e := floor_eq (a := a) hb
    rw [if_neg (by omega)] at e
    have r := ediv_range hb (k := 4611686018427387904) (by omega) (by omega) (by omega)
    simp -dsimp
    simp -dsimp (disch := omega) only [wrap_in]
    omega

theorem w88 (S A j a : Int) (hj : 2 ≤ j ∧ j ≤ 100000) (ha : -100000 ≤ a ∧ a ≤ 100000) : Pure Try.prog 88 [.agg #[.int .i64 S, .int .i64 A, .int .i64 j], .int .i64 a] (.int .i64 (fadM j a)) := by
  refine Pure.of_body Try.func88 rfl (by kernel_rfl) Try.ntmps88 (by rw [Try.results88]) (Nat.le_of_ble_eq_true rfl) fun h n => ?_
  have hj0 : ¬ j = 0 := by omega
  refine Sat.sq ?_
  refine Sat.reg (by kernel_rfl) ?_
  simp -dsimp
  refine Sat.sq ?_
  refine Sat.sq ?_
  refine Sat.reg (by kernel_rfl) ?_
  simp -dsimp
  refine Sat.ite rfl (fun hc => ?_) (fun hc => ?_)
  · simp at hc
    refine Sat.sq ?_
    refine Sat.reg (by kernel_rfl) ?_
    simp -dsimp
    refine Sat.ret (PureQ.ret rfl (keep_upd (Nat.le_refl _) keep_refl) ?_)
    simp -dsimp [fadM, hc]
  · simp at hc
    refine Sat.skip ?_
    simp -dsimp
    refine Sat.sq ?_
    refine Sat.reg (by kernel_rfl) ?_
    simp -dsimp [hj0]
    refine Sat.sq ?_
    refine Sat.reg (by kernel_rfl) ?_
    simp -dsimp
    refine Sat.ret (PureQ.ret rfl (keep_upd (Nat.le_refl _) keep_refl) ?_)
    have hn0 : 0 ≤ (a - 1) / j := Int.ediv_nonneg (by omega) (by omega)
    have hn1 : (a - 1) / j * j ≤ a - 1 := Int.ediv_mul_le _ (by omega)
    have hn2 : (a - 1) / j * 2 ≤ (a - 1) / j * j := Int.mul_le_mul_of_nonneg_left (by omega) hn0
    rw [fadM, if_neg (by omega)]
    simp -dsimp (disch := omega) only [wrap_in]
    rw [Int.tdiv_eq_ediv_of_nonneg (by omega)]
    generalize (a - 1) / j = m at *
    rw [Int.mul_comm m j] at hn1 hn2
    have b1 : 0 ≤ m * a ∧ m * a ≤ 50000 * 100000 := ⟨Int.mul_nonneg hn0 (by omega), Int.mul_le_mul (by omega) (by omega) (by omega) (by omega)⟩
    have b2 : 0 ≤ j * m * (m + 1) ∧ j * m * (m + 1) ≤ 100000 * 100000 := ⟨Int.mul_nonneg (by omega) (by omega), Int.mul_le_mul (by omega) (by omega) (by omega) (by omega)⟩
    have b3 : (j * m * (m + 1)).tdiv 2 = (j * m * (m + 1)) / 2 := Int.tdiv_eq_ediv_of_nonneg b2.1
    simp -dsimp (disch := omega) [wrap_in, b3]

abbrev u87_4 : List (Nat × Nat) := [(1, 5), (5, 8)]
abbrev u87_5 : List (Nat × Nat) := [(1, 6)]
theorem w87 (S A j v a : Int) (hv : validM S A j = true) (hb : -1000000000000000 ≤ v ∧ v ≤ 1000000000000000) : Pure Try.prog 87 [.agg #[.int .i64 S, .int .i64 A, .int .i64 j], .agg #[.int .i64 v, .int .i64 a]] (.bool (safeM S A j v a)) := by
  refine Pure.of_body Try.func87 rfl (by kernel_rfl) Try.ntmps87 (by rw [Try.results87]) (Nat.le_of_ble_eq_true rfl) fun h n => ?_
  rw [valid_iff] at hv
  refine Sat.sq ?_
  refine Sat.reg (by kernel_rfl) ?_
  simp -dsimp
  refine Sat.sq ?_
  refine Sat.sq ?_
  refine Sat.reg (by kernel_rfl) ?_
  simp -dsimp
  refine (w74 ..).useH ?_
  cases h1 : withinB v 0 S
  · simp
    refine Sat.cond rfl ?_
    simp -dsimp
    refine Sat.sq ?_
    refine Sat.reg (by kernel_rfl) ?_
    simp -dsimp
    refine Sat.ret (PureQ.ret rfl (keep_upd (by omega) (keep_upd (by omega) keep_refl)) ?_)
    simp -dsimp [safeM, h1]
  simp -dsimp
  simp -dsimp (disch := omega) only [wrap_in]
  refine (w74 ..).useH ?_
  simp -dsimp
  cases h2 : withinB a (-A) A
  · simp
    refine Sat.cond rfl ?_
    simp -dsimp
    refine Sat.sq ?_
    refine Sat.reg (by kernel_rfl) ?_
    simp -dsimp
    refine Sat.ret (PureQ.ret rfl (keep_upd (by omega) (keep_upd (by omega) keep_refl)) ?_)
    simp -dsimp [safeM, h1, h2]
  have h1' := within_iff.1 h1
  have h2' := within_iff.1 h2
  simp -dsimp
  refine Sat.cond rfl ?_
  refine Sat.skip ?_
  simp -dsimp
  refine Sat.sq ?_
  refine Sat.sq ?_
  refine Sat.reg (by kernel_rfl) ?_
  simp -dsimp
  refine Sat.ite rfl (fun hc => ?_) (fun hc => ?_)
  · simp at hc
    refine Sat.sq ?_
    refine Sat.drw u87_4 mixed (by kernel_rfl) (by kernel_rfl) (by kernel_rfl) (by kernel_rfl) ?_
    simp -dsimp
    refine callD.pure (w88 _ _ _ _ (by omega) (by omega)) ?_
    simp -dsimp
    refine Sat.ret (PureQ.ret rfl (keep_upd (by omega) (keep_upd (by omega) keep_refl)) ?_)
    have b1 := fad_bound (j := j) (a := a) (by omega) (by omega)
    have b2 := fad_nonneg (j := j) (by omega) a
    simp -dsimp (disch := omega) [safeM, h1, h2, hc, wrap_in]
  · simp at hc
    refine Sat.skip ?_
    simp -dsimp
    refine Sat.sq ?_
    refine Sat.drw u87_5 mixed (by kernel_rfl) (by kernel_rfl) (by kernel_rfl) (by kernel_rfl) ?_
    simp -dsimp
    simp -dsimp (disch := omega) only [wrap_in]
    refine callD.pure (w88 _ _ _ _ (by omega) (by omega)) ?_
    simp -dsimp
    refine Sat.ret (PureQ.ret rfl (keep_upd (by omega) (keep_upd (by omega) keep_refl)) ?_)
    have b1 := fad_bound (j := j) (a := -a) (by omega) (by omega)
    have b2 := fad_nonneg (j := j) (by omega) (-a)
    simp -dsimp (disch := omega) [safeM, h1, h2, wrap_in, Int.not_lt.2 hc]

end Go.Proofs.Ytoinimkmoojcoaa
/- Walks, part A2. -/
set_option maxRecDepth 100000
set_option maxHeartbeats 4000000
set_option linter.unusedSimpArgs false
set_option linter.unusedVariables false
namespace Go.Proofs.Ytoinimkmoojcoaa
open Go Go.Dm
attribute [local simp ↓] RunS_nil RunS_op RunS_guard RunT_nil RunT_op RunT_guard opS_call opD_call opS_move opD_move opS_assign opD_assign opS_pick opD_pick opS_nilCheck opD_nilCheck opS_fieldAddr opD_fieldAddr opS_indexAddr opD_indexAddr opS_load opD_load opS_store opD_store opS_alloc opD_alloc opS_box opD_box opS_build opD_build opS_buildSlice opD_buildSlice opS_field opD_field opS_extract opD_extract opS_makeFunc opD_makeFunc opS_slice opD_slice opS_binOp opD_binOp opS_unOp opD_unOp opS_convert opD_convert opS_index opD_index opS_len opD_len opS_append opD_append opS_max opD_max opS_min opD_min obind_some obind_none thenH_normal thenH_ret thenH_exit blockA_normal blockA_ret blockA_exit thenA_normal thenA_ret thenA_exit dstAt_mk dstL_zero dstL_succ
attribute [local simp] wantG_bool wantG_undef findO_some calleeS find putA ev closed3 closed2 closed1 closed0 pickA binF unF convF mxF eqNilA fastBin fastUn fastConv intBin argEnv resultsA resultsL resultA notTuple allocs eff
  loadO storeO allocO boxO sliceO indexO indexAddrA loadA storeA newA isAggT nilCheckA lenA evAll evParts aadd gen upd_at upd_upd Value.cells mxV Pairs apart readsS labOf putAt fieldA partA extractA makeFuncA evOpt boundOf sliceA Nat.add_assoc
attribute [local simp] bu107_z bu107_0_1 bu25_0_1_2 bu36_z bu36_0_1 bu36_0_1_2 bu36_0 bu38_z bu38_0_1_2_3_4 bu38_0_1_3 bu38_0_1_3_4 bu38_1_2 bu38_1_2_3 bu52_0_1_10 bu81_0_1 bs22_0_z bs22_1_0 bs22_2_0_1 bs39_1_0 bs39_7_0_1_2_3_4_5_6 bs95_4_0_1_2_3
attribute [local simp] fa25_0 fa25_1 fa25_2 fa36_0 fa36_1 fa36_2 fa38_0 fa38_1 fa38_2 fa38_3 fa38_4 fa107_0 fa107_1 fa81_0 fa81_1 fa81_2 fa81_3 fa81_4 fa81_5 fa81_6 fa81_7 fa81_8 fa81_9 fa81_10 fa52_0 fa52_1 fa52_2 fa52_3 fa52_4 fa52_5 fa52_6 fa52_7 fa52_8 fa52_9 fa52_10 fa52_11 fa52_12
attribute [local simp] c25 c38 c2 c3 c4 c36 c107 c30 z25 z38 z2 z3 z4 z36 z107 b38 b25 b107 h38 h25 h36 h107 g38 g25 g36 g107 Try.underlying25 Try.underlying38 Try.underlying2 Try.underlying3 Try.underlying4 Try.underlying36 Try.underlying22 Try.underlying39 Try.underlying29 Try.underlying81 Try.underlying107 Try.underlying30
theorem mx (x y : Int) : (if x < y then y else x) = max x y := by omega
theorem mn (x y : Int) : (if y < x then y else x) = min x y := by omega
attribute [local simp] mx mn
abbrev u81_1 : List (Nat × Nat) := []
abbrev u81_4 : List (Nat × Nat) := [(1, 7)]
theorem w81 (S A j v a : Int) (hv : validM S A j = true) (hs : safeM S A j v a = true) : Pure Try.prog 81 [.agg #[.int .i64 S, .int .i64 A, .int .i64 j], .agg #[.int .i64 v, .int .i64 a]] (.agg #[.int .i64 (v + brakeM A j v a), .int .i64 (brakeM A j v a)]) := by
  refine Pure.of_body Try.func81 rfl (by kernel_rfl) Try.ntmps81 (by rw [Try.results81]) (Nat.le_of_ble_eq_true rfl) fun h n => ?_
  have bk := brake_ok hv hs
  rw [valid_iff] at hv
  rw [safe_iff] at hs
  have b1 := bk.lo
  have b2 := bk.hi
  refine Sat.sq ?_
  refine Sat.reg (by kernel_rfl) ?_
  simp -dsimp
  refine Sat.sq ?_
  refine Sat.drw u81_1 mixed (by kernel_rfl) (by kernel_rfl) (by kernel_rfl) (by kernel_rfl) ?_
  simp -dsimp
  simp -dsimp (disch := omega) only [wrap_in]
  refine Sat.sq ?_
  refine Sat.block ?_
  refine Sat.loop (ι := Nat × Int × Int) (fun i T h' n' => find T 2 = some (.pointer (some ⟨n, 0, none⟩)) ∧ find T 3 = some (.pointer (some ⟨n + 1, 0, none⟩)) ∧ find T 4 = some (.pointer (some ⟨n + 2, 0, none⟩)) ∧
    find T 5 = some (.int .i64 i.2.1) ∧ find T 6 = some (.int .i64 i.2.2) ∧ h' n = some ⟨[.int .i64 S, .int .i64 A, .int .i64 j], 25, 0, true⟩ ∧ h' (n + 1) = some ⟨[.int .i64 v, .int .i64 a], 107, 0, true⟩ ∧
    h' (n + 2) = some ⟨[.int .i64 0, .int .i64 0], 107, 0, true⟩ ∧ (∀ L, L < n → h' L = h L) ∧
    bis (fun b => decide (0 ≤ v + b - fadM j (-b))) i.1 i.2.1 i.2.2 = brakeM A j v a ∧ i.2.2 - i.2.1 < 2 ^ i.1 ∧ -A ≤ i.2.1 ∧ i.2.1 ≤ i.2.2 ∧ i.2.2 ≤ A) (fun i => i.1) (20, max (-A) (a - j), min A (a + j)) ?_ ?_
  · simp -dsimp [brakeM]
    refine ⟨fun L hL => ?_, ?_⟩
    · rw [if_neg (by omega), if_neg (by omega), if_neg (by omega)]
    · omega
  · rintro ⟨k, lo, hi⟩ T h' n' ⟨t2, t3, t4, t5, t6, m0, m1, m2, mk, hb, hw, hr1, hr2, hr3⟩
    simp only at t5 t6 hb hw hr1 hr2 hr3
    refine Sat.sq ?_
    refine Sat.sq ?_
    refine Sat.reg (by kernel_rfl) ?_
    simp -dsimp [t5, t6]
    refine Sat.ite rfl (fun hc => ?_) (fun hc => ?_)
    · simp at hc
      obtain ⟨k, rfl⟩ : ∃ k', k = k' + 1 := by
        cases k with
        | zero => simp at hw; omega
        | succ k => exact ⟨k, rfl⟩
      rw [Int.pow_succ] at hw
      refine Sat.skip ?_
      simp -dsimp
      refine Sat.block ?_
      refine Sat.sq ?_
      refine Sat.reg (by kernel_rfl) ?_
      simp -dsimp [t5, t6]
      simp -dsimp (disch := omega) only [wrap_in]
      refine (w83 _ _ (by omega) (by omega) (by omega)).useH ?_
      simp -dsimp
      refine Sat.sq ?_
      refine Sat.drw u81_4 mixed (by kernel_rfl) (by kernel_rfl) (by kernel_rfl) (by kernel_rfl) ?_
      simp -dsimp [t2, t3, m0, m1]
      simp -dsimp (disch := omega) only [wrap_in]
      refine callD.pure (w88 _ _ _ _ (by omega) (by omega)) ?_
      have f1 := fad_nonneg (j := j) (by omega) (-((lo + hi) / 2))
      have f2 := fad_bound (j := j) (a := -((lo + hi) / 2)) (by omega) (by omega)
      simp -dsimp
      simp -dsimp (disch := omega) only [wrap_in]
      unfold bis at hb
      rw [if_pos (by omega)] at hb
      refine Sat.ite rfl (fun hc => ?_) (fun hc => ?_)
      · simp at hc
        refine Sat.reg (by kernel_rfl) ?_
        simp -dsimp [t2, t3, t4, t5, m0, m1, m2]
        refine ⟨k, ⟨mk, ?_, by omega, by omega, by omega, by omega⟩, by omega⟩
        rw [← hb, if_pos (by simpa using hc)]; simp
      · simp at hc
        refine Sat.reg (by kernel_rfl) ?_
        simp -dsimp [t2, t3, t4, t6, m0, m1, m2]
        simp -dsimp (disch := omega) only [wrap_in]
        refine ⟨k, ⟨mk, ?_, by omega, by omega, by omega, by omega⟩, by omega⟩
        rw [← hb, if_neg (by simpa using hc)]; simp
    · simp at hc
      have hlo : lo = brakeM A j v a := by
        rw [← hb]; cases k with
        | zero => rfl
        | succ k => unfold bis; rw [if_neg (by omega)]
      subst hlo
      refine Sat.exit ?_
      simp -dsimp
      refine Sat.sq ?_
      refine Sat.reg (by kernel_rfl) ?_
      simp -dsimp [t3, t4, t5, m1, m2]
      simp -dsimp (disch := omega) only [wrap_in]
      refine Sat.ret (PureQ.ret rfl (keep_upd (by omega) mk) ?_)
      simp [t4]

end Go.Proofs.Ytoinimkmoojcoaa
/- Walks, part A3. -/
set_option maxRecDepth 100000
set_option maxHeartbeats 4000000
set_option linter.unusedSimpArgs false
set_option linter.unusedVariables false
namespace Go.Proofs.Ytoinimkmoojcoaa
open Go Go.Dm
attribute [local simp ↓] RunS_nil RunS_op RunS_guard RunT_nil RunT_op RunT_guard opS_call opD_call opS_move opD_move opS_assign opD_assign opS_pick opD_pick opS_nilCheck opD_nilCheck opS_fieldAddr opD_fieldAddr opS_indexAddr opD_indexAddr opS_load opD_load opS_store opD_store opS_alloc opD_alloc opS_box opD_box opS_build opD_build opS_buildSlice opD_buildSlice opS_field opD_field opS_extract opD_extract opS_makeFunc opD_makeFunc opS_slice opD_slice opS_binOp opD_binOp opS_unOp opD_unOp opS_convert opD_convert opS_index opD_index opS_len opD_len opS_append opD_append opS_max opD_max opS_min opD_min obind_some obind_none thenH_normal thenH_ret thenH_exit blockA_normal blockA_ret blockA_exit thenA_normal thenA_ret thenA_exit dstAt_mk dstL_zero dstL_succ
attribute [local simp] wantG_bool wantG_undef findO_some calleeS find putA ev closed3 closed2 closed1 closed0 pickA binF unF convF mxF eqNilA fastBin fastUn fastConv intBin argEnv resultsA resultsL resultA notTuple allocs eff
  loadO storeO allocO boxO sliceO indexO indexAddrA loadA storeA newA isAggT nilCheckA lenA evAll evParts aadd gen upd_at upd_upd Value.cells mxV Pairs apart readsS labOf putAt fieldA partA extractA makeFuncA evOpt boundOf sliceA Nat.add_assoc
attribute [local simp] bu107_z bu107_0_1 bu25_0_1_2 bu36_z bu36_0_1 bu36_0_1_2 bu36_0 bu38_z bu38_0_1_2_3_4 bu38_0_1_3 bu38_0_1_3_4 bu38_1_2 bu38_1_2_3 bu52_0_1_10 bu81_0_1 bs22_0_z bs22_1_0 bs22_2_0_1 bs39_1_0 bs39_7_0_1_2_3_4_5_6 bs95_4_0_1_2_3
attribute [local simp ↓] eql107 neq107 eql36 neq36 eql38 neq38 eql25 neq25
attribute [local simp] fa25_0 fa25_1 fa25_2 fa36_0 fa36_1 fa36_2 fa38_0 fa38_1 fa38_2 fa38_3 fa38_4 fa107_0 fa107_1 fa81_0 fa81_1 fa81_2 fa81_3 fa81_4 fa81_5 fa81_6 fa81_7 fa81_8 fa81_9 fa81_10 fa52_0 fa52_1 fa52_2 fa52_3 fa52_4 fa52_5 fa52_6 fa52_7 fa52_8 fa52_9 fa52_10 fa52_11 fa52_12
attribute [local simp] c25 c38 c2 c3 c4 c36 c107 c30 z25 z38 z2 z3 z4 z36 z107 b38 b25 b107 h38 h25 h36 h107 g38 g25 g36 g107 Try.underlying25 Try.underlying38 Try.underlying2 Try.underlying3 Try.underlying4 Try.underlying36 Try.underlying22 Try.underlying39 Try.underlying29 Try.underlying81 Try.underlying107 Try.underlying30
attribute [local simp] mx mn
theorem w80 (S A j v a : Int) (hv : validM S A j = true) (hs : safeM S A j v a = true) : Pure Try.prog 80 [.agg #[.int .i64 S, .int .i64 A, .int .i64 j], .agg #[.int .i64 v, .int .i64 a]] (.int .i64 (distM A j v a)) := by
  refine Pure.of_body Try.func80 rfl (by kernel_rfl) Try.ntmps80 (by rw [Try.results80]) (Nat.le_of_ble_eq_true rfl) fun h n => ?_
  have hd := distM_bound hv hs
  refine Sat.sq ?_
  refine Sat.reg (by kernel_rfl) ?_
  simp -dsimp
  refine Sat.sq ?_
  refine Sat.reg (by kernel_rfl) ?_
  simp -dsimp
  refine Sat.sq ?_
  refine Sat.block ?_
  refine Sat.loop (ι := Int × Int × Int) (fun i T h' n' => find T 2 = some (.pointer (some ⟨n, 0, none⟩)) ∧ find T 3 = some (.pointer (some ⟨n + 1, 0, none⟩)) ∧
    find T 5 = some (.int .i64 i.2.2) ∧ h' n = some ⟨[.int .i64 S, .int .i64 A, .int .i64 j], 25, 0, true⟩ ∧ h' (n + 1) = some ⟨[.int .i64 i.1, .int .i64 i.2.1], 107, 0, true⟩ ∧
    (∀ L, L < n → h' L = h L) ∧ safeM S A j i.1 i.2.1 = true ∧ 0 ≤ i.2.2 ∧ i.2.2 + distM A j i.1 i.2.1 = distM A j v a) (fun i => mB j i.1 i.2.1) (v, a, 0) ?_ ?_
  · simp -dsimp
    refine ⟨fun L hL => ?_, hs⟩
    rw [if_neg (by omega), if_neg (by omega)]
  · rintro ⟨v, a, s⟩ T h' n' ⟨t2, t3, t5, m0, m1, mk, hs, hs0, hsum⟩
    simp only at t5 m1 hs hs0 hsum
    have hd1 := distM_bound hv hs
    refine Sat.sq ?_
    refine Sat.sq ?_
    refine Sat.reg (by kernel_rfl) ?_
    simp -dsimp [t2, t3, t5, m0, m1]
    refine Sat.ite rfl (fun hc => ?_) (fun hc => ?_)
    · have hc : ¬(v = 0 ∧ a = 0) := by simp at hc; omega
      have hb := (brake_ok hv hs).safe
      have hst := distM_step hv hs
      rw [if_neg hc] at hst
      have hd2 := distM_bound hv hb
      have hl := mB_less hv hs hc
      have hb' := safe_iff.1 hb
      refine Sat.skip ?_
      simp -dsimp
      refine Sat.block ?_
      refine Sat.sq ?_
      refine Sat.reg (by kernel_rfl) ?_
      simp -dsimp [t2, t3, m0, m1]
      refine (w81 _ _ _ _ _ hv hs).useH ?_
      simp -dsimp [t3, m1]
      refine Sat.reg (by kernel_rfl) ?_
      simp -dsimp [t2, t3, t5, m0, m1]
      simp -dsimp (disch := omega) only [wrap_in]
      refine ⟨v + brakeM A j v a, brakeM A j v a, ⟨⟨rfl, rfl⟩, ?_, hb, by omega, by omega⟩, hl⟩
      intro L hL
      rw [if_neg (by omega)]; exact mk L hL
    · simp at hc
      have hst := distM_step hv hs
      rw [if_pos hc] at hst
      refine Sat.exit ?_
      simp -dsimp
      refine Sat.sq ?_
      refine Sat.reg (by kernel_rfl) ?_
      simp -dsimp [t5]
      refine Sat.ret (PureQ.ret rfl mk ?_)
      simp [t5]
      omega

end Go.Proofs.Ytoinimkmoojcoaa
/- Walks, part A4. -/
set_option maxRecDepth 100000
set_option maxHeartbeats 4000000
set_option linter.unusedSimpArgs false
set_option linter.unusedVariables false
namespace Go.Proofs.Ytoinimkmoojcoaa
open Go Go.Dm
attribute [local simp ↓] RunS_nil RunS_op RunS_guard RunT_nil RunT_op RunT_guard opS_call opD_call opS_move opD_move opS_assign opD_assign opS_pick opD_pick opS_nilCheck opD_nilCheck opS_fieldAddr opD_fieldAddr opS_indexAddr opD_indexAddr opS_load opD_load opS_store opD_store opS_alloc opD_alloc opS_box opD_box opS_build opD_build opS_buildSlice opD_buildSlice opS_field opD_field opS_extract opD_extract opS_makeFunc opD_makeFunc opS_slice opD_slice opS_binOp opD_binOp opS_unOp opD_unOp opS_convert opD_convert opS_index opD_index opS_len opD_len opS_append opD_append opS_max opD_max opS_min opD_min obind_some obind_none thenH_normal thenH_ret thenH_exit blockA_normal blockA_ret blockA_exit thenA_normal thenA_ret thenA_exit dstAt_mk dstL_zero dstL_succ
attribute [local simp] undef wantG_bool wantG_undef findO_some calleeS find putA ev closed3 closed2 closed1 closed0 pickA binF unF convF mxF eqNilA fastBin fastUn fastConv intBin argEnv resultsA resultsL resultA notTuple allocs eff
  loadO storeO allocO boxO sliceO indexO indexAddrA loadA storeA newA isAggT nilCheckA lenA evAll evParts aadd gen upd_at upd_upd Value.cells mxV Pairs apart readsS labOf putAt fieldA partA extractA makeFuncA evOpt boundOf sliceA Nat.add_assoc
attribute [local simp] bu107_z bu107_0_1 bu25_0_1_2 bu36_z bu36_0_1 bu36_0_1_2 bu36_0 bu38_z bu38_0_1_2_3_4 bu38_0_1_3 bu38_0_1_3_4 bu38_1_2 bu38_1_2_3 bu52_0_1_10 bu81_0_1 bs22_0_z bs22_1_0 bs22_2_0_1 bs39_1_0 bs39_7_0_1_2_3_4_5_6 bs95_4_0_1_2_3
attribute [local simp ↓] eql107 neq107 eql36 neq36 eql38 neq38 eql25 neq25
attribute [local simp] fa25_0 fa25_1 fa25_2 fa36_0 fa36_1 fa36_2 fa38_0 fa38_1 fa38_2 fa38_3 fa38_4 fa107_0 fa107_1 fa81_0 fa81_1 fa81_2 fa81_3 fa81_4 fa81_5 fa81_6 fa81_7 fa81_8 fa81_9 fa81_10 fa52_0 fa52_1 fa52_2 fa52_3 fa52_4 fa52_5 fa52_6 fa52_7 fa52_8 fa52_9 fa52_10 fa52_11 fa52_12
attribute [local simp] c25 c38 c2 c3 c4 c36 c107 c30 z25 z38 z2 z3 z4 z36 z107 b38 b25 b107 h38 h25 h36 h107 g38 g25 g36 g107 Try.underlying25 Try.underlying38 Try.underlying2 Try.underlying3 Try.underlying4 Try.underlying36 Try.underlying22 Try.underlying39 Try.underlying29 Try.underlying81 Try.underlying107 Try.underlying30
theorem pureAt {P : Program} {g : FuncId} {fn : Func} {c : Code} (hf : P.funcs[g]? = some fn) (hb : fn.body = some c) (hnm : (fn.name == "runtime.NumGoroutine") = false) {args : List Value} {N : Nat} {rs : List ResultVar} (hN : fn.ntmps = N) (hrs : fn.results.toList = rs) (hlen : args.length ≤ N) {r : Value} {h : Heap} {n : Nat}
    (hsat : Sat P N c (argEnv 0 args) h n (PureQ P rs r h n)) : Dm.Spec P g args h n fun r' h' n' => r' = r ∧ h' = h ∧ n' = n := by
  subst hN; subst hrs
  exact Spec.pure (Q := fun r' => r' = r) (Spec.of_body hf hb hnm hlen hsat)
attribute [local simp] mx mn
abbrev u86_2 : List (Nat × Nat) := [(12, 13), (12, 15)]
theorem w86 (S A j v a rest b : Int) (L1 L2 L3 : Nat) (o1 o2 o3 : Bool) (h : Heap) (n : Nat) (h1 : h L1 = some ⟨[.int .i64 v, .int .i64 a], 107, 0, o1⟩) (h2 : h L2 = some ⟨[.int .i64 rest], 2, 0, o2⟩) (h3 : h L3 = some ⟨[.int .i64 S, .int .i64 A, .int .i64 j], 25, 0, o3⟩)
    (l1 : L1 < n) (l2 : L2 < n) (l3 : L3 < n) (hv : validM S A j = true) (b1 : 0 ≤ v ∧ v ≤ 100000) (b2 : -1000000000000 ≤ b ∧ b ≤ 1000000000000) (b3 : 0 ≤ rest ∧ rest ≤ 1000000000000) :
    Dm.Spec Try.prog 86 [.int .i64 b, .pointer (some ⟨L1, 0, none⟩), .pointer (some ⟨L2, 0, none⟩), .pointer (some ⟨L3, 0, none⟩)] h n fun r' h' n' => r' = .bool (fitsM S A j v rest b) ∧ h' = h ∧ n' = n := by
  refine pureAt Try.func86 rfl (by kernel_rfl) Try.ntmps86 (by rw [Try.results86]) (Nat.le_of_ble_eq_true rfl) ?_
  have e1 : ¬ L1 = n := by omega
  have e2 : ¬ L2 = n := by omega
  have e3 : ¬ L3 = n := by omega
  refine Sat.sq ?_
  refine Sat.reg (by kernel_rfl) ?_
  simp -dsimp
  refine Sat.sq ?_
  refine Sat.reg (by kernel_rfl) ?_
  simp -dsimp [h1]
  simp -dsimp (disch := omega) only [wrap_in]
  refine Sat.sq ?_
  refine Sat.drw u86_2 mixed (by kernel_rfl) (by kernel_rfl) (by kernel_rfl) (by kernel_rfl) ?_
  by_cases c1 : v + b ≤ rest
  · simp -dsimp [h2, h3, e1, e2, e3, c1]
    refine callD.pure (w87 _ _ _ _ _ hv (by omega)) ?_
    cases c2 : safeM S A j (v + b) b
    · simp -dsimp

      refine Sat.ret (PureQ.ret rfl (keep_upd (by omega) keep_refl) ?_)
      simp [fitsM, c1, c2]
    · simp -dsimp [h2, h3, e1, e2, e3]
      refine callD.pure (w80 _ _ _ _ _ hv c2) ?_
      have hd := distM_bound hv c2
      simp -dsimp [h2, h3, e1, e2, e3]
      simp -dsimp (disch := omega) only [wrap_in]
      refine Sat.ret (PureQ.ret rfl (keep_upd (by omega) keep_refl) ?_)
      simp [fitsM, c1, c2]
  · simp -dsimp [h2, h3, e1, e2, e3, c1]
    refine Sat.ret (PureQ.ret rfl (keep_upd (by omega) keep_refl) ?_)
    simp [fitsM, c1]

end Go.Proofs.Ytoinimkmoojcoaa
/- Walks, part A5. -/
set_option maxRecDepth 100000
set_option maxHeartbeats 4000000
set_option linter.unusedSimpArgs false
set_option linter.unusedVariables false
namespace Go.Proofs.Ytoinimkmoojcoaa
open Go Go.Dm
attribute [local simp ↓] RunS_nil RunS_op RunS_guard RunT_nil RunT_op RunT_guard opS_call opD_call opS_move opD_move opS_assign opD_assign opS_pick opD_pick opS_nilCheck opD_nilCheck opS_fieldAddr opD_fieldAddr opS_indexAddr opD_indexAddr opS_load opD_load opS_store opD_store opS_alloc opD_alloc opS_box opD_box opS_build opD_build opS_buildSlice opD_buildSlice opS_field opD_field opS_extract opD_extract opS_makeFunc opD_makeFunc opS_slice opD_slice opS_binOp opD_binOp opS_unOp opD_unOp opS_convert opD_convert opS_index opD_index opS_len opD_len opS_append opD_append opS_max opD_max opS_min opD_min obind_some obind_none thenH_normal thenH_ret thenH_exit blockA_normal blockA_ret blockA_exit thenA_normal thenA_ret thenA_exit dstAt_mk dstL_zero dstL_succ
attribute [local simp] undef wantG_bool wantG_undef findO_some calleeS find putA ev closed3 closed2 closed1 closed0 pickA binF unF convF mxF eqNilA fastBin fastUn fastConv intBin argEnv resultsA resultsL resultA notTuple allocs eff
  loadO storeO allocO boxO sliceO indexO indexAddrA loadA storeA newA isAggT nilCheckA lenA evAll evParts aadd gen upd_at upd_upd Value.cells mxV Pairs apart readsS labOf putAt fieldA partA extractA makeFuncA evOpt boundOf sliceA Nat.add_assoc
attribute [local simp] bu107_z bu107_0_1 bu25_0_1_2 bu36_z bu36_0_1 bu36_0_1_2 bu36_0 bu38_z bu38_0_1_2_3_4 bu38_0_1_3 bu38_0_1_3_4 bu38_1_2 bu38_1_2_3 bu52_0_1_10 bu81_0_1 bs22_0_z bs22_1_0 bs22_2_0_1 bs39_1_0 bs39_7_0_1_2_3_4_5_6 bs95_4_0_1_2_3
attribute [local simp ↓] eql107 neq107 eql36 neq36 eql38 neq38 eql25 neq25
attribute [local simp] fa25_0 fa25_1 fa25_2 fa36_0 fa36_1 fa36_2 fa38_0 fa38_1 fa38_2 fa38_3 fa38_4 fa107_0 fa107_1 fa81_0 fa81_1 fa81_2 fa81_3 fa81_4 fa81_5 fa81_6 fa81_7 fa81_8 fa81_9 fa81_10 fa52_0 fa52_1 fa52_2 fa52_3 fa52_4 fa52_5 fa52_6 fa52_7 fa52_8 fa52_9 fa52_10 fa52_11 fa52_12
attribute [local simp] c25 c38 c2 c3 c4 c36 c107 c30 z25 z38 z2 z3 z4 z36 z107 b38 b25 b107 h38 h25 h36 h107 g38 g25 g36 g107 Try.underlying25 Try.underlying38 Try.underlying2 Try.underlying3 Try.underlying4 Try.underlying36 Try.underlying22 Try.underlying39 Try.underlying29 Try.underlying81 Try.underlying107 Try.underlying30
attribute [local simp] mx mn
abbrev u76_2 : List (Nat × Nat) := [(2, 5), (2, 9), (2, 11), (2, 13), (2, 15), (2, 17)]
def nextR (v : Int) : Option Int → Value
  | none => .tuple #[.agg #[.int .i64 0, .int .i64 0], .bool false]
  | some b => .tuple #[.agg #[.int .i64 (v + b), .int .i64 b], .bool true]
theorem w76 (S A j v a rest : Int) (hv : validM S A j = true) (hs : safeM S A j v a = true) (hr : 0 < rest ∧ rest ≤ 1000000000000) :
    Pure Try.prog 76 [.agg #[.int .i64 S, .int .i64 A, .int .i64 j], .agg #[.int .i64 v, .int .i64 a], .int .i64 rest] (nextR v (nextM S A j v a rest)) := by
  refine Pure.of_body Try.func76 rfl (by kernel_rfl) Try.ntmps76 (by rw [Try.results76]) (Nat.le_of_ble_eq_true rfl) fun h n => ?_
  have bk := brake_ok hv hs
  have b1 := bk.lo
  have b2 := bk.hi
  have hv' := valid_iff.1 hv
  have hs' := safe_iff.1 hs
  refine Sat.sq ?_
  refine Sat.reg (by kernel_rfl) ?_
  simp -dsimp
  refine Sat.sq ?_
  refine Sat.reg (by kernel_rfl) ?_
  simp -dsimp
  refine Sat.sq ?_
  refine Sat.drw u76_2 mixed (by kernel_rfl) (by kernel_rfl) (by kernel_rfl) (by kernel_rfl) ?_
  simp -dsimp
  refine callD.pure (w81 _ _ _ _ _ hv hs) ?_
  simp -dsimp
  simp -dsimp (disch := omega) only [wrap_in]
  refine Sat.sq ?_
  refine Sat.sq ?_
  refine Sat.reg (by kernel_rfl) ?_
  have enext : nextM S A j v a rest = if min (min A (a + j)) (rest - v) < max (brakeM A j v a) (1 - v) then none else if fitsM S A j v rest (max (brakeM A j v a) (1 - v)) then some (bisUp (fitsM S A j v rest) 20 (max (brakeM A j v a) (1 - v)) (min (min A (a + j)) (rest - v))) else none := rfl
  generalize hlo : max (brakeM A j v a) (1 - v) = lo0 at *
  rw [show min (min A (a + j)) (rest - v) = min A (min (a + j) (rest - v)) by omega] at enext
  generalize hhi : min A (min (a + j) (rest - v)) = hi0 at *
  by_cases c1 : hi0 < lo0
  · rw [enext, if_pos c1]
    simp -dsimp [c1]
    refine Sat.cond rfl ?_
    refine Sat.sq ?_
    refine Sat.reg (by kernel_rfl) ?_
    simp -dsimp
    refine Sat.ret (PureQ.ret rfl ?_ ?_)
    · repeat (first | exact keep_refl | refine keep_upd (by omega) ?_)
    · simp [nextR]
  simp -dsimp [c1]
  refine Dm.Spec.useH (w86 S A j v a rest _ _ _ _ true true true _ _ (by simp) (by simp) (by simp) (by omega) (by omega) (by omega) hv (by omega) (by omega) (by omega)) ?_
  cases c2 : fitsM S A j v rest lo0
  · rw [enext, if_neg c1, c2, if_neg (by simp)]
    simp -dsimp
    refine Sat.cond rfl ?_
    refine Sat.sq ?_
    refine Sat.reg (by kernel_rfl) ?_
    simp -dsimp
    refine Sat.ret (PureQ.ret rfl ?_ ?_)
    · repeat (first | exact keep_refl | refine keep_upd (by omega) ?_)
    · simp [nextR]
  simp -dsimp
  refine Sat.cond rfl ?_
  refine Sat.skip ?_
  simp -dsimp
  refine Sat.sq ?_
  refine Sat.block ?_
  rw [enext, if_neg c1, c2, if_pos rfl]
  refine Sat.loop (ι := Nat × Int × Int) (fun i T h' n' => find T 4 = some (.pointer (some ⟨n + 1, 0, none⟩)) ∧ find T 6 = some (.pointer (some ⟨n + 3, 0, none⟩)) ∧
    find T 8 = some (.func (.func 86) #[] #[.pointer (some ⟨n + 1, 0, none⟩), .pointer (some ⟨n + 2, 0, none⟩), .pointer (some ⟨n, 0, none⟩)]) ∧
    find T 9 = some (.int .i64 i.2.1) ∧ find T 10 = some (.int .i64 i.2.2) ∧ h' n = some ⟨[.int .i64 S, .int .i64 A, .int .i64 j], 25, 0, true⟩ ∧ h' (n + 1) = some ⟨[.int .i64 v, .int .i64 a], 107, 0, true⟩ ∧
    h' (n + 2) = some ⟨[.int .i64 rest], 2, 0, true⟩ ∧ h' (n + 3) = some ⟨[.int .i64 0, .int .i64 0], 107, 0, true⟩ ∧ n + 3 < n' ∧ (∀ L, L < n → h' L = h L) ∧
    bisUp (fitsM S A j v rest) i.1 i.2.1 i.2.2 = bisUp (fitsM S A j v rest) 20 lo0 hi0 ∧ i.2.2 - i.2.1 < 2 ^ i.1 ∧ lo0 ≤ i.2.1 ∧ i.2.1 ≤ i.2.2 ∧ i.2.2 ≤ hi0) (fun i => i.1) (20, lo0, hi0) ?_ ?_
  · simp -dsimp
    refine ⟨fun L hL => ?_, ?_⟩
    · rw [if_neg (by omega), if_neg (by omega), if_neg (by omega), if_neg (by omega)]
    · omega
  · rintro ⟨k, lo, hi⟩ T h' n' ⟨t4, t6, t8, t9, t10, m0, m1, m2, m3, hn, mk, hb, hw, hr1, hr2, hr3⟩
    simp only at t9 t10 hb hw hr1 hr2 hr3
    refine Sat.sq ?_
    refine Sat.sq ?_
    refine Sat.reg (by kernel_rfl) ?_
    simp -dsimp [t9, t10]
    refine Sat.ite rfl (fun hc => ?_) (fun hc => ?_)
    · simp at hc
      obtain ⟨k, rfl⟩ : ∃ k', k = k' + 1 := by
        cases k with
        | zero => simp at hw; omega
        | succ k => exact ⟨k, rfl⟩
      rw [Int.pow_succ] at hw
      unfold bisUp at hb
      rw [if_pos (by omega)] at hb
      refine Sat.skip ?_
      simp -dsimp
      refine Sat.block ?_
      refine Sat.sq ?_
      refine Sat.reg (by kernel_rfl) ?_
      simp -dsimp [t9, t10]
      simp -dsimp (disch := omega) only [wrap_in]
      rw [Int.tdiv_eq_ediv_of_nonneg (by omega)]
      simp -dsimp (disch := omega) only [wrap_in]
      refine Sat.sq ?_
      refine Sat.reg (by kernel_rfl) ?_
      simp -dsimp [t8]
      refine Dm.Spec.useH (w86 S A j v a rest _ _ _ _ true true true _ _ m1 m2 m0 (by omega) (by omega) (by omega) hv (by omega) (by omega) (by omega)) ?_
      simp -dsimp
      refine Sat.ite rfl (fun hc => ?_) (fun hc => ?_)
      · rw [if_pos hc] at hb
        refine Sat.reg (by kernel_rfl) ?_
        simp -dsimp [t4, t6, t8, t10, m0, m1, m2, m3]
        refine ⟨k, ⟨hn, mk, hb, by omega, by omega, by omega, by omega⟩, by omega⟩
      · rw [hc, if_neg (by simp)] at hb
        refine Sat.reg (by kernel_rfl) ?_
        simp -dsimp [t4, t6, t8, t9, m0, m1, m2, m3]
        simp -dsimp (disch := omega) only [wrap_in]
        refine ⟨k, ⟨hn, mk, hb, by omega, by omega, by omega, by omega⟩, by omega⟩
    · simp at hc
      have hlo2 : lo = bisUp (fitsM S A j v rest) 20 lo0 hi0 := by
        rw [← hb]; cases k with
        | zero => rfl
        | succ k => unfold bisUp; rw [if_neg (by omega)]
      rw [← hlo2]
      refine Sat.exit ?_
      simp -dsimp
      refine Sat.sq ?_
      refine Sat.reg (by kernel_rfl) ?_
      simp -dsimp [t4, t6, t9, m1, m3]
      simp -dsimp (disch := omega) only [wrap_in]
      refine Sat.ret (PureQ.ret rfl (keep_upd (by omega) mk) ?_)
      simp [t6, nextR]

end Go.Proofs.Ytoinimkmoojcoaa
/- Walks, part A6. -/
set_option maxRecDepth 100000
set_option maxHeartbeats 4000000
set_option linter.unusedSimpArgs false
set_option linter.unusedVariables false
namespace Go.Proofs.Ytoinimkmoojcoaa
open Go Go.Dm
attribute [local simp ↓] RunS_nil RunS_op RunS_guard RunT_nil RunT_op RunT_guard opS_call opD_call opS_move opD_move opS_assign opD_assign opS_pick opD_pick opS_nilCheck opD_nilCheck opS_fieldAddr opD_fieldAddr opS_indexAddr opD_indexAddr opS_load opD_load opS_store opD_store opS_alloc opD_alloc opS_box opD_box opS_build opD_build opS_buildSlice opD_buildSlice opS_field opD_field opS_extract opD_extract opS_makeFunc opD_makeFunc opS_slice opD_slice opS_binOp opD_binOp opS_unOp opD_unOp opS_convert opD_convert opS_index opD_index opS_len opD_len opS_append opD_append opS_max opD_max opS_min opD_min obind_some obind_none thenH_normal thenH_ret thenH_exit blockA_normal blockA_ret blockA_exit thenA_normal thenA_ret thenA_exit dstAt_mk dstL_zero dstL_succ
attribute [local simp] undef wantG_bool wantG_undef findO_some calleeS find putA ev closed3 closed2 closed1 closed0 pickA binF unF convF mxF eqNilA fastBin fastUn fastConv intBin argEnv resultsA resultsL resultA notTuple allocs eff
  loadO storeO allocO boxO sliceO indexO indexAddrA loadA storeA newA isAggT nilCheckA lenA evAll evParts aadd gen upd_at upd_upd Value.cells mxV Pairs apart readsS labOf putAt fieldA partA extractA makeFuncA evOpt boundOf sliceA Nat.add_assoc
attribute [local simp] bu107_z bu107_0_1 bu25_0_1_2 bu36_z bu36_0_1 bu36_0_1_2 bu36_0 bu38_z bu38_0_1_2_3_4 bu38_0_1_3 bu38_0_1_3_4 bu38_1_2 bu38_1_2_3 bu52_0_1_10 bu81_0_1 bs22_0_z bs22_1_0 bs22_2_0_1 bs39_1_0 bs39_7_0_1_2_3_4_5_6 bs95_4_0_1_2_3
attribute [local simp ↓] eql107 neq107 eql36 neq36 eql38 neq38 eql25 neq25
attribute [local simp] fa25_0 fa25_1 fa25_2 fa36_0 fa36_1 fa36_2 fa38_0 fa38_1 fa38_2 fa38_3 fa38_4 fa107_0 fa107_1 fa81_0 fa81_1 fa81_2 fa81_3 fa81_4 fa81_5 fa81_6 fa81_7 fa81_8 fa81_9 fa81_10 fa52_0 fa52_1 fa52_2 fa52_3 fa52_4 fa52_5 fa52_6 fa52_7 fa52_8 fa52_9 fa52_10 fa52_11 fa52_12
attribute [local simp] c25 c38 c2 c3 c4 c36 c107 c30 z25 z38 z2 z3 z4 z36 z107 b38 b25 b107 h38 h25 h36 h107 g38 g25 g36 g107 Try.underlying25 Try.underlying38 Try.underlying2 Try.underlying3 Try.underlying4 Try.underlying36 Try.underlying22 Try.underlying39 Try.underlying29 Try.underlying81 Try.underlying107 Try.underlying30
attribute [local simp] mx mn
theorem w42 (S A j : Int) : Pure Try.prog 42 [.agg #[.int .i64 S, .int .i64 A, .int .i64 j]] (.int .i64 (if validM S A j then 0 else 1)) := by
  refine Pure.of_body Try.func42 rfl (by kernel_rfl) Try.ntmps42 (by rw [Try.results42]) (Nat.le_of_ble_eq_true rfl) fun h n => ?_
  refine Sat.sq ?_
  refine Sat.reg (by kernel_rfl) ?_
  simp -dsimp
  refine Sat.sq ?_
  refine Sat.sq ?_
  refine Sat.reg (by kernel_rfl) ?_
  cases c1 : withinB S 1 100000
  · simp -dsimp
    refine (w74 ..).useH ?_
    simp -dsimp [c1]
    refine Sat.cond rfl (Sat.skip ?_)
    simp -dsimp
    refine Sat.sq ?_
    refine Sat.reg (by kernel_rfl) ?_
    simp -dsimp
    refine Sat.ret (PureQ.ret rfl (keep_upd (by omega) keep_refl) ?_)
    simp [validM, c1]
  cases c2 : withinB A 1 100000
  · simp -dsimp
    refine (w74 ..).useH ?_
    simp -dsimp [c1]
    refine (w74 ..).useH ?_
    simp -dsimp [c2]
    refine Sat.cond rfl (Sat.skip ?_)
    simp -dsimp
    refine Sat.sq ?_
    refine Sat.reg (by kernel_rfl) ?_
    simp -dsimp
    refine Sat.ret (PureQ.ret rfl (keep_upd (by omega) keep_refl) ?_)
    simp [validM, c1, c2]
  simp -dsimp
  refine (w74 ..).useH ?_
  simp -dsimp [c1]
  refine (w74 ..).useH ?_
  simp -dsimp [c2]
  refine (w74 ..).useH ?_
  simp -dsimp
  refine Sat.ite rfl (fun hc => ?_) (fun hc => ?_)
  · refine Sat.sq ?_
    refine Sat.reg (by kernel_rfl) ?_
    simp -dsimp
    refine Sat.ret (PureQ.ret rfl (keep_upd (by omega) keep_refl) ?_)
    simp [validM, c1, c2, hc]
  · refine Sat.skip ?_
    simp -dsimp
    refine Sat.sq ?_
    refine Sat.reg (by kernel_rfl) ?_
    simp -dsimp
    refine Sat.ret (PureQ.ret rfl (keep_upd (by omega) keep_refl) ?_)
    simp [validM, c1, c2, hc]
theorem w49 (S A j : Int) (hj : 0 ≤ j ∧ j ≤ 100000) : Pure Try.prog 49 [.agg #[.int .i64 S, .int .i64 A, .int .i64 j]] (.int .i64 (simpleM S A j)) := by
  refine Pure.of_body Try.func49 rfl (by kernel_rfl) Try.ntmps49 (by rw [Try.results49]) (Nat.le_of_ble_eq_true rfl) fun h n => ?_
  refine Sat.sq ?_
  refine Sat.reg (by kernel_rfl) ?_
  simp -dsimp
  refine Sat.sq ?_
  refine Sat.reg (by kernel_rfl) ?_
  simp -dsimp
  rw [Int.tdiv_eq_ediv_of_nonneg (by omega)]
  simp -dsimp (disch := omega) only [wrap_in]
  refine Sat.ret (PureQ.ret rfl (keep_upd (by omega) keep_refl) ?_)
  simp [simpleM]
def ticksR (t : Int × Int) : Value := .tuple #[.int .i64 t.1, .int .i64 t.2]
theorem simple_pos {S A j : Int} (hv : validM S A j = true) : 1 ≤ simpleM S A j ∧ simpleM S A j ≤ 100000 := by
  have := valid_iff.1 hv
  unfold simpleM; omega
theorem w47 (S A j m : Int) : Pure Try.prog 47 [.int .i64 m, .agg #[.int .i64 S, .int .i64 A, .int .i64 j]] (ticksR (ticksM S A j m)) := by
  refine Pure.of_body Try.func47 rfl (by kernel_rfl) Try.ntmps47 (by rw [Try.results47]) (Nat.le_of_ble_eq_true rfl) fun h n => ?_
  refine Sat.sq ?_
  refine Sat.reg (by kernel_rfl) ?_
  simp -dsimp
  refine Sat.sq ?_
  refine Sat.sq ?_
  refine Sat.reg (by kernel_rfl) ?_
  simp -dsimp
  refine (w42 ..).useH ?_
  cases hv : validM S A j
  · simp -dsimp
    refine Sat.cond rfl ?_
    refine Sat.sq ?_
    refine Sat.reg (by kernel_rfl) ?_
    simp -dsimp
    refine Sat.ret (PureQ.ret rfl (keep_upd (by omega) keep_refl) ?_)
    simp [ticksM, hv, ticksR]
  simp -dsimp
  refine Sat.ite rfl (fun hc => ?_) (fun hc => ?_)
  · simp at hc
    refine Sat.sq ?_
    refine Sat.reg (by kernel_rfl) ?_
    simp -dsimp
    refine Sat.ret (PureQ.ret rfl (keep_upd (by omega) keep_refl) ?_)
    simp [ticksM, hv, hc, ticksR]
  · simp at hc
    refine Sat.skip ?_
    simp -dsimp
    refine Sat.sq ?_
    refine Sat.sq ?_
    refine Sat.reg (by kernel_rfl) ?_
    simp -dsimp
    refine Sat.ite rfl (fun hd => ?_) (fun hd => ?_)
    · simp at hd
      refine Sat.sq ?_
      refine Sat.reg (by kernel_rfl) ?_
      simp -dsimp
      refine Sat.ret (PureQ.ret rfl (keep_upd (by omega) keep_refl) ?_)
      have h2 : ¬ m < 0 := by omega
      simp [ticksM, hv, hd, h2, ticksR]
    · simp at hd
      have hu := simple_pos hv
      have hv' := valid_iff.1 hv
      refine Sat.skip ?_
      simp -dsimp
      refine Sat.sq ?_
      refine Sat.reg (by kernel_rfl) ?_
      simp -dsimp
      refine (w49 _ _ _ (by omega)).useH ?_
      simp -dsimp
      refine Sat.sq ?_
      refine Sat.reg (by kernel_rfl) ?_
      have hu0 : ¬ simpleM S A j = 0 := by omega
      simp -dsimp [hu0]
      simp -dsimp (disch := omega) only [wrap_in]
      rw [Int.tdiv_eq_ediv_of_nonneg (by omega)]
      have r := ediv_range (a := m + simpleM S A j - 1) (b := simpleM S A j) (by omega) (k := 2000000000000) (by omega) (by omega) (by omega)
      simp -dsimp (disch := omega) only [wrap_in]
      refine Sat.ret (PureQ.ret rfl (keep_upd (by omega) keep_refl) ?_)
      have h1 : ¬ 1000000000000 < m := by omega
      have h2 : ¬ m < 0 := by omega
      simp [ticksM, hv, h1, h2, ticksR]

end Go.Proofs.Ytoinimkmoojcoaa
/- Walks, part A7. -/
set_option maxRecDepth 100000
set_option maxHeartbeats 4000000
set_option linter.unusedSimpArgs false
set_option linter.unusedVariables false
namespace Go.Proofs.Ytoinimkmoojcoaa
open Go Go.Dm
attribute [local simp ↓] RunS_nil RunS_op RunS_guard RunT_nil RunT_op RunT_guard opS_call opD_call opS_move opD_move opS_assign opD_assign opS_pick opD_pick opS_nilCheck opD_nilCheck opS_fieldAddr opD_fieldAddr opS_indexAddr opD_indexAddr opS_load opD_load opS_store opD_store opS_alloc opD_alloc opS_box opD_box opS_build opD_build opS_buildSlice opD_buildSlice opS_field opD_field opS_extract opD_extract opS_makeFunc opD_makeFunc opS_slice opD_slice opS_binOp opD_binOp opS_unOp opD_unOp opS_convert opD_convert opS_index opD_index opS_len opD_len opS_append opD_append opS_max opD_max opS_min opD_min obind_some obind_none thenH_normal thenH_ret thenH_exit blockA_normal blockA_ret blockA_exit thenA_normal thenA_ret thenA_exit dstAt_mk dstL_zero dstL_succ
attribute [local simp] undef wantG_bool wantG_undef findO_some calleeS find putA ev closed3 closed2 closed1 closed0 pickA binF unF convF mxF eqNilA fastBin fastUn fastConv intBin argEnv resultsA resultsL resultA notTuple allocs eff
  loadO storeO allocO boxO sliceO indexO indexAddrA loadA storeA newA isAggT nilCheckA lenA evAll evParts aadd gen upd_at upd_upd Value.cells mxV Pairs apart readsS labOf putAt fieldA partA extractA makeFuncA evOpt boundOf sliceA Nat.add_assoc
attribute [local simp] bu107_z bu107_0_1 bu25_0_1_2 bu36_z bu36_0_1 bu36_0_1_2 bu36_0 bu38_z bu38_0_1_2_3_4 bu38_0_1_3 bu38_0_1_3_4 bu38_1_2 bu38_1_2_3 bu52_0_1_10 bu81_0_1 bs22_0_z bs22_1_0 bs22_2_0_1 bs39_1_0 bs39_7_0_1_2_3_4_5_6 bs95_4_0_1_2_3
attribute [local simp ↓] eql107 neq107 eql36 neq36 eql38 neq38 eql25 neq25
attribute [local simp] fa25_0 fa25_1 fa25_2 fa36_0 fa36_1 fa36_2 fa38_0 fa38_1 fa38_2 fa38_3 fa38_4 fa107_0 fa107_1 fa81_0 fa81_1 fa81_2 fa81_3 fa81_4 fa81_5 fa81_6 fa81_7 fa81_8 fa81_9 fa81_10 fa52_0 fa52_1 fa52_2 fa52_3 fa52_4 fa52_5 fa52_6 fa52_7 fa52_8 fa52_9 fa52_10 fa52_11 fa52_12
attribute [local simp] c25 c38 c2 c3 c4 c36 c107 c30 z25 z38 z2 z3 z4 z36 z107 b38 b25 b107 h38 h25 h36 h107 g38 g25 g36 g107 Try.underlying25 Try.underlying38 Try.underlying2 Try.underlying3 Try.underlying4 Try.underlying36 Try.underlying22 Try.underlying39 Try.underlying29 Try.underlying81 Try.underlying107 Try.underlying30
attribute [local simp] mx mn
def ints (l : List Int) : List Value := l.map (.int .i64)
theorem ints_at {h : Heap} {n : Nat} {s : Value} {l : List Int} (hr : RS h n 1 s (ints l) l.length) {i : Nat} (hi : i < l.length) :
    ∃ a c b, s = .slice (some a) l.length c ∧ a.block < n ∧ h a.block = some b ∧ b.gen = gen a ∧ b.cells[a.off + i]? = some (.int .i64 l[i]) := by
  obtain ⟨a, c, b, h1, h2, h3, h4, h5, h6⟩ := hr.at hi
  refine ⟨a, c, b, h1, h2, h3, h4, ?_⟩
  have e1 := congrArg (·[0]?) h6
  simp only [Nat.mul_one, List.getElem?_take, List.getElem?_drop] at e1
  simpa [ints, hi] using e1
theorem w77 (S A j : Int) (l : List Int) (s : Value) (h : Heap) (n : Nat) (hr : RS h n 1 s (ints l) l.length) (hl : l.length ≤ 1000000) :
    Dm.Spec Try.prog 77 [s, .agg #[.int .i64 S, .int .i64 A, .int .i64 j]] h n fun r' h' n' => r' = .bool (smoothM S A j l) ∧ h' = h ∧ n' = n := by
  obtain ⟨hlen, A0, c0, hs0, hnil, hpos⟩ := id hr
  have hnt : notTuple s = true := by rw [hs0]; rfl
  refine pureAt Try.func77 rfl (by kernel_rfl) Try.ntmps77 (by rw [Try.results77]) (Nat.le_of_ble_eq_true rfl) ?_
  refine Sat.sq ?_
  refine Sat.reg (by kernel_rfl) ?_
  simp -dsimp
  refine Sat.sq ?_
  refine Sat.sq ?_
  refine Sat.reg (by kernel_rfl) ?_
  simp -dsimp
  refine (w42 ..).useH ?_
  cases hv : validM S A j
  · simp -dsimp
    refine Sat.cond rfl ?_
    refine Sat.sq ?_
    refine Sat.reg (by kernel_rfl) ?_
    simp -dsimp
    refine Sat.ret (PureQ.ret rfl (keep_upd (by omega) keep_refl) ?_)
    simp [smoothM, hv]
  have hv' := valid_iff.1 hv
  simp -dsimp
  refine Sat.cond rfl ?_
  refine Sat.skip ?_
  simp -dsimp
  refine Sat.sq ?_
  refine Sat.reg (by kernel_rfl) ?_
  simp -dsimp
  refine Sat.sq ?_
  refine Sat.sq ?_
  refine Sat.reg (by kernel_rfl) ?_
  simp -dsimp [hs0]
  simp -dsimp (disch := omega) only [wrap_in]
  refine Sat.block ?_
  have esm : smoothM S A j l = smL S A j ((l ++ [0, 0]).drop 0) 0 0 := by simp [smoothM, hv]
  refine Sat.loop (ι := Nat × Int × Int) (fun i T h' n' => find T 0 = some s ∧ find T 3 = some (.pointer (some ⟨n, 0, none⟩)) ∧ find T 5 = some (.pointer (some ⟨n + 1, 0, none⟩)) ∧
    find T 14 = some (.int .i64 (l.length + 2)) ∧ find T 15 = some (.int .i64 i.1) ∧ h' n = some ⟨[.int .i64 S, .int .i64 A, .int .i64 j], 25, 0, true⟩ ∧ h' (n + 1) = some ⟨[.int .i64 i.2.1, .int .i64 i.2.2], 107, 0, true⟩ ∧
    (∀ L, L < n → h' L = h L) ∧ i.1 ≤ l.length + 2 ∧ smL S A j ((l ++ [0, 0]).drop i.1) i.2.1 i.2.2 = smoothM S A j l ∧ 0 ≤ i.2.1 ∧ i.2.1 ≤ S ∧ -A ≤ i.2.2 ∧ i.2.2 ≤ A) (fun i => l.length + 2 - i.1) (0, 0, 0) ?_ ?_
  · simp -dsimp [hs0]
    refine ⟨fun L hL => ?_, ?_⟩
    · rw [if_neg (by omega), if_neg (by omega)]
    · simp at esm; rw [esm]; simp; omega
  · rintro ⟨i, v, a⟩ T h' n' ⟨t0, t3, t5, t14, t15, m0, m1, mk, hi, hsm, r1, r2, r3, r4⟩
    simp only at t15 m1 hi hsm r1 r2 r3 r4
    refine Sat.sq ?_
    refine Sat.reg (by kernel_rfl) ?_
    simp -dsimp [t14, t15]
    refine Sat.sq ?_
    refine Sat.ite rfl (fun hc => ?_) (fun hc => ?_)
    · have hc : i < l.length + 2 := by simp at hc; omega
      refine Sat.skip ?_
      simp -dsimp
      refine Sat.sq ?_
      refine Sat.block ?_
      refine Sat.sq ?_
      refine Sat.reg (by kernel_rfl) ?_
      simp -dsimp [t15]
      refine Sat.sq ?_
      refine Sat.reg (by kernel_rfl) ?_
      simp -dsimp
      obtain ⟨x, hx, hdrop⟩ : ∃ x, (if hi : i < l.length then l[i] else 0) = x ∧ (l ++ [0, 0]).drop i = x :: (l ++ [0, 0]).drop (i + 1) := by
        refine ⟨_, rfl, ?_⟩
        rw [List.drop_eq_getElem_cons (by simp; omega)]
        congr 1
        split
        · rename_i h1; rw [List.getElem_append_left h1]
        · rename_i h1
          rw [List.getElem_append_right (by omega)]
          have : i - l.length = 0 ∨ i - l.length = 1 := by omega
          rcases this with h2 | h2 <;> simp [h2]
      refine Sat.join (fun T' h2 n2 => find T' 0 = some s ∧ find T' 3 = some (.pointer (some ⟨n, 0, none⟩)) ∧ find T' 5 = some (.pointer (some ⟨n + 1, 0, none⟩)) ∧
        find T' 14 = some (.int .i64 (l.length + 2)) ∧ find T' 15 = some (.int .i64 i) ∧ find T' 7 = some (.int .i64 x) ∧ h2 = h' ∧ n2 = n') ?_ ?_
      · refine Sat.sq ?_
        refine Sat.reg (by kernel_rfl) ?_
        simp -dsimp [t0, hs0]
        refine Sat.ite rfl (fun hd => ?_) (fun hd => ?_)
        · have hd : i < l.length := by simpa using hd
          obtain ⟨a1, c1, b1, q1, q2, q3, q4, q5⟩ := ints_at hr hd
          rw [hs0] at q1
          cases q1
          rw [← mk _ q2] at q3
          refine Sat.reg (by kernel_rfl) ?_
          simp -dsimp [t0, t3, t5, t14, t15, hs0, hd, q3, q4, q5]
          simpa [hd] using hx
        · have hd : ¬ i < l.length := by simpa using hd
          refine Sat.skip ?_
          rw [dif_neg hd] at hx
          simp -dsimp [t0, t3, t5, t14, t15, hs0, hx]
      clear t0 t3 t5 t14 t15
      rintro T h2 n2 ⟨t0, t3, t5, t14, t15, t7, rfl, rfl⟩
      rw [hdrop, smL] at hsm
      refine Sat.sq ?_
      refine Sat.sq ?_
      refine Sat.reg (by kernel_rfl) ?_
      simp -dsimp [t0, t3, t5, t7, m0, m1]
      refine (w74 ..).useH ?_
      cases k1 : withinB x 0 S
      · simp -dsimp
        refine Sat.cond rfl ?_
        refine Sat.sq ?_
        refine Sat.reg (by kernel_rfl) ?_
        simp -dsimp
        refine Sat.ret (PureQ.ret (n := n2) rfl mk ?_)
        simp [← hsm, k1]
      have k1' := within_iff.1 k1
      simp -dsimp [t0, t3, t5, t7, m0, m1]
      simp -dsimp (disch := omega) only [wrap_in]
      refine (w74 ..).useH ?_
      cases k2 : withinB (x - v) (-A) A
      · simp -dsimp
        refine Sat.cond rfl ?_
        refine Sat.sq ?_
        refine Sat.reg (by kernel_rfl) ?_
        simp -dsimp
        refine Sat.ret (PureQ.ret (n := n2) rfl mk ?_)
        simp [← hsm, k1, k2]
      have k2' := within_iff.1 k2
      simp -dsimp [t0, t3, t5, t7, m0, m1]
      simp -dsimp (disch := omega) only [wrap_in]
      refine (w74 ..).useH ?_
      cases k3 : withinB (x - v - a) (-j) j
      · simp -dsimp
        refine Sat.cond rfl ?_
        refine Sat.sq ?_
        refine Sat.reg (by kernel_rfl) ?_
        simp -dsimp
        refine Sat.ret (PureQ.ret (n := n2) rfl mk ?_)
        simp [← hsm, k1, k2, k3]
      simp -dsimp
      refine Sat.cond rfl ?_
      refine Sat.skip ?_
      simp -dsimp
      refine Sat.reg (by kernel_rfl) ?_
      simp -dsimp [t0, t3, t5, t7, m0, m1]
      simp -dsimp (disch := omega) only [wrap_in]
      refine Sat.reg (by kernel_rfl) ?_
      simp -dsimp [t0, t3, t5, t7, t14, t15, m0, m1]
      simp -dsimp (disch := omega) only [wrap_in]
      refine ⟨i + 1, ⟨by omega, x, x - v, ⟨rfl, rfl⟩, ?_, by omega, ?_, by omega⟩, by omega⟩
      · intro L hL; rw [if_neg (by omega)]; exact mk L hL
      · rw [← hsm]; simp [k1, k2, k3]
    · have hc : i = l.length + 2 := by simp at hc; omega
      subst hc
      have : (l ++ [0, 0]).drop (l.length + 2) = [] := List.drop_of_length_le (by simp)
      rw [this, smL] at hsm
      refine Sat.exit ?_
      simp -dsimp
      refine Sat.sq ?_
      refine Sat.reg (by kernel_rfl) ?_
      simp -dsimp
      refine Sat.ret (PureQ.ret (n := n') rfl mk ?_)
      simp [← hsm]

end Go.Proofs.Ytoinimkmoojcoaa
/- Walks, part A8. -/
set_option maxRecDepth 100000
set_option maxHeartbeats 4000000
set_option linter.unusedSimpArgs false
set_option linter.unusedVariables false
namespace Go.Proofs.Ytoinimkmoojcoaa
open Go Go.Dm
attribute [local simp ↓] RunS_nil RunS_op RunS_guard RunT_nil RunT_op RunT_guard opS_call opD_call opS_move opD_move opS_assign opD_assign opS_pick opD_pick opS_nilCheck opD_nilCheck opS_fieldAddr opD_fieldAddr opS_indexAddr opD_indexAddr opS_load opD_load opS_store opD_store opS_alloc opD_alloc opS_box opD_box opS_build opD_build opS_buildSlice opD_buildSlice opS_field opD_field opS_extract opD_extract opS_makeFunc opD_makeFunc opS_slice opD_slice opS_binOp opD_binOp opS_unOp opD_unOp opS_convert opD_convert opS_index opD_index opS_len opD_len opS_append opD_append opS_max opD_max opS_min opD_min obind_some obind_none thenH_normal thenH_ret thenH_exit blockA_normal blockA_ret blockA_exit thenA_normal thenA_ret thenA_exit dstAt_mk dstL_zero dstL_succ
attribute [local simp] undef wantG_bool wantG_undef findO_some calleeS find putA ev closed3 closed2 closed1 closed0 pickA binF unF convF mxF eqNilA fastBin fastUn fastConv intBin argEnv resultsA resultsL resultA notTuple allocs eff
  loadO storeO allocO boxO sliceO indexO indexAddrA loadA storeA newA isAggT nilCheckA lenA evAll evParts aadd gen upd_at upd_upd Value.cells mxV Pairs apart readsS labOf putAt fieldA partA extractA makeFuncA evOpt boundOf sliceA Nat.add_assoc
attribute [local simp] bu107_z bu107_0_1 bu25_0_1_2 bu36_z bu36_0_1 bu36_0_1_2 bu36_0 bu38_z bu38_0_1_2_3_4 bu38_0_1_3 bu38_0_1_3_4 bu38_1_2 bu38_1_2_3 bu52_0_1_10 bu81_0_1 bs22_0_z bs22_1_0 bs22_2_0_1 bs39_1_0 bs39_7_0_1_2_3_4_5_6 bs95_4_0_1_2_3
attribute [local simp ↓] eql107 neq107 eql36 neq36 eql38 neq38 eql25 neq25
attribute [local simp] fa25_0 fa25_1 fa25_2 fa36_0 fa36_1 fa36_2 fa38_0 fa38_1 fa38_2 fa38_3 fa38_4 fa107_0 fa107_1 fa81_0 fa81_1 fa81_2 fa81_3 fa81_4 fa81_5 fa81_6 fa81_7 fa81_8 fa81_9 fa81_10 fa52_0 fa52_1 fa52_2 fa52_3 fa52_4 fa52_5 fa52_6 fa52_7 fa52_8 fa52_9 fa52_10 fa52_11 fa52_12
attribute [local simp] c25 c38 c2 c3 c4 c36 c107 c30 z25 z38 z2 z3 z4 z36 z107 b38 b25 b107 h38 h25 h36 h107 g38 g25 g36 g107 Try.underlying25 Try.underlying38 Try.underlying2 Try.underlying3 Try.underlying4 Try.underlying36 Try.underlying22 Try.underlying39 Try.underlying29 Try.underlying81 Try.underlying107 Try.underlying30
attribute [local simp] mx mn
theorem next_some {S A j v a rest b : Int} (h : nextM S A j v a rest = some b) : fitsM S A j v rest b = true ∧ 1 ≤ v + b ∧ b ≤ A := by
  unfold nextM at h
  simp only at h
  split at h
  · cases h
  split at h
  · rename_i h1 h2
    cases h
    have h3 := bisUp_pass (p := fitsM S A j v rest) 20 _ (min (min A (a + j)) (rest - v)) h2
    have h4 := bisUp_range (p := fitsM S A j v rest) 20 (max (brakeM A j v a) (1 - v)) (min (min A (a + j)) (rest - v)) (by omega)
    exact ⟨h3, by omega, by omega⟩
  · cases h
theorem fits_iff {S A j v rest b : Int} : fitsM S A j v rest b = true ↔ v + b ≤ rest ∧ safeM S A j (v + b) b = true ∧ distM A j (v + b) b ≤ rest - (v + b) := by
  simp [fitsM, and_assoc]
def fastPost (S A j m most : Int) (h : Heap) (n : Nat) (r : Value) (h' : Heap) (n' : Nat) : Prop :=
  n ≤ n' ∧ (∀ L, L < n → h' L = h L) ∧ ((fastM S A j m most = none ∧ ∃ s, r = .tuple #[s, .bool false] ∧ notTuple s = true) ∨ ∃ l s, fastM S A j m most = some l ∧ r = .tuple #[s, .bool true] ∧ GS h' 2 1 s (ints l) l.length n n')
abbrev u48_1 : List (Nat × Nat) := []
theorem w48 (S A j m most : Int) (hv : validM S A j = true) (hm : 0 ≤ m ∧ m ≤ 1000000000000) (h0 : 0 ≤ most ∧ most ≤ 100000) (h : Heap) (n : Nat) :
    Dm.Spec Try.prog 48 [.agg #[.int .i64 S, .int .i64 A, .int .i64 j], .int .i64 m, .int .i64 most] h n (fastPost S A j m most h n) := by
  refine Spec.body Try.func48 rfl (by kernel_rfl) Try.ntmps48 (by rw [Try.results48]) (Nat.le_of_ble_eq_true rfl) ?_
  have hv' := valid_iff.1 hv
  have A0 : ¬ A = 0 := by omega
  have j0 : ¬ j = 0 := by omega
  have r1 := ediv_range (a := S) (b := A) (by omega) (k := 100000) (by omega) (by omega) (by omega)
  have r2 := ediv_range (a := A) (b := j) (by omega) (k := 100000) (by omega) (by omega) (by omega)
  refine Sat.sq ?_
  refine Sat.reg (by kernel_rfl) ?_
  simp -dsimp
  refine Sat.join (fun T' h2 n2 => find T' 1 = some (.int .i64 m) ∧ find T' 2 = some (.int .i64 most) ∧ find T' 3 = some (.pointer (some ⟨n, 0, none⟩)) ∧ h2 = upd h n ⟨[.int .i64 S, .int .i64 A, .int .i64 j], 25, 0, true⟩ ∧ n2 = n + 1 ∧ ¬ (5000 < most ∨ 100 < S / A + A / j)) ?_ ?_
  · have key : ∀ _ : Unit, 5000 < most ∨ 100 < S / A + A / j → fastPost S A j m most h n (.tuple #[.slice none 0 0, .bool false]) (upd h n ⟨[.int .i64 S, .int .i64 A, .int .i64 j], 25, 0, true⟩) (n + 1) := by
      intro _ hc
      refine ⟨by omega, keep_upd (by omega) keep_refl, .inl ⟨?_, _, rfl, rfl⟩⟩
      unfold fastM; rw [if_pos hc]
    refine Sat.sq ?_
    refine Sat.drw u48_1 mixed (by kernel_rfl) (by kernel_rfl) (by kernel_rfl) (by kernel_rfl) ?_
    by_cases c1 : 5000 < most
    · simp -dsimp [c1]
      refine Sat.cond rfl ?_
      refine Sat.sq ?_
      refine Sat.reg (by kernel_rfl) ?_
      simp -dsimp
      refine Sat.ret (RetQ.ret (n := n + 1) ?_ (key () (.inl c1)))
      simp
    · simp -dsimp [c1, A0, j0]
      rw [Int.tdiv_eq_ediv_of_nonneg (by omega), Int.tdiv_eq_ediv_of_nonneg (by omega)]
      simp -dsimp (disch := omega) only [wrap_in]
      refine Sat.ite rfl (fun hc => ?_) (fun hc => ?_)
      · have hc : 100 < S / A + A / j := by simpa using hc
        refine Sat.sq ?_
        refine Sat.reg (by kernel_rfl) ?_
        simp -dsimp
        refine Sat.ret (RetQ.ret (n := n + 1) ?_ (key () (.inr hc)))
        simp
      · have hc : ¬ 100 < S / A + A / j := by simpa using hc
        refine Sat.skip ?_
        simp -dsimp
        omega
  rintro T h2 n2 ⟨t1, t2, t3, rfl, rfl, hsmall⟩
  refine Sat.sq ?_
  refine Sat.reg (by kernel_rfl) ?_
  simp -dsimp
  refine Sat.sq ?_
  refine Sat.reg (by kernel_rfl) ?_
  simp -dsimp
  refine Sat.sq ?_
  refine Sat.sq ?_
  refine Sat.reg (by kernel_rfl) ?_
  simp -dsimp [t1]
  refine Sat.block ?_
  have efast : ∀ k, k = most.toNat → fastM S A j m most = (fastL S A j k 0 0 m).bind fun l => if smoothM S A j l then some l else none := by
    intro k hk; subst hk; unfold fastM; rw [if_neg hsmall]
  have s00 : safeM S A j 0 0 = true := by
    rw [safe_iff, fad_small (by omega), fad_small (by omega)]; omega
  refine Sat.loop (ι := Nat × Int × Int × Int × List Int) (fun i T h' n' => find T 2 = some (.int .i64 most) ∧ find T 3 = some (.pointer (some ⟨n, 0, none⟩)) ∧ find T 9 = some (.pointer (some ⟨n + 1, 0, none⟩)) ∧
    find T 10 = some (.int .i64 i.2.2.2.1) ∧ h' n = some ⟨[.int .i64 S, .int .i64 A, .int .i64 j], 25, 0, true⟩ ∧ h' (n + 1) = some ⟨[.int .i64 i.2.1, .int .i64 i.2.2.1], 107, 0, true⟩ ∧
    n + 2 ≤ n' ∧ (∀ L, L < n → h' L = h L) ∧ (∃ s, find T 8 = some s ∧ GS h' 2 1 s (ints i.2.2.2.2) i.2.2.2.2.length (n + 2) n') ∧
    safeM S A j i.2.1 i.2.2.1 = true ∧ 0 ≤ i.2.2.2.1 ∧ i.2.2.2.1 ≤ 1000000000000 ∧ i.2.2.2.2.length + i.1 = most.toNat ∧
    (fastL S A j i.1 i.2.1 i.2.2.1 i.2.2.2.1).map (i.2.2.2.2 ++ ·) = fastL S A j most.toNat 0 0 m) (fun i => i.1) (most.toNat, 0, 0, m, []) ?_ ?_
  · simp -dsimp [t2, t3]
    refine ⟨fun L hL => ?_, ?_⟩
    · rw [if_neg (by omega), if_neg (by omega)]
    · exact ⟨.nil, s00, hm.1, hm.2⟩
  · rintro ⟨k, v, a, rest, acc⟩ T h' n' ⟨t2, t3, t9, t10, m0, m1, hn, mk, ⟨s, t8, hg⟩, hs, hr0, hr1, hk, hf⟩
    simp only at t10 m1 hg hs hr0 hr1 hk hf
    obtain ⟨A1, c1, es⟩ := hg.val
    refine Sat.sq ?_
    refine Sat.sq ?_
    refine Sat.reg (by kernel_rfl) ?_
    simp -dsimp [t10]
    refine Sat.ite rfl (fun hc => ?_) (fun hc => ?_)
    · have hc : 0 < rest := by simpa using hc
      have e1 : n + 1 < n' := by omega
      have e2 : ¬ n = n' := by omega
      have e3 : ¬ n + 1 = n' := by omega
      refine Sat.skip ?_
      simp -dsimp
      refine Sat.sq ?_
      refine Sat.block ?_
      refine Sat.sq ?_
      refine Sat.reg (by kernel_rfl) ?_
      simp -dsimp [t3, t9, t10, m0, m1]
      refine (w76 _ _ _ _ _ _ hv hs ⟨hc, hr1⟩).useH ?_
      have hfail : fastL S A j k v a rest = none → fastM S A j m most = none := by
        intro h1; rw [efast _ rfl, ← hf, h1]; rfl
      cases hnx : nextM S A j v a rest with
      | none =>
        have hfl : fastL S A j k v a rest = none := by
          cases k with
          | zero => simp [fastL, hc]
          | succ k => simp [fastL, hc, hnx]
        simp -dsimp [nextR]
        refine Sat.sq ?_
        refine Sat.sq ?_
        refine Sat.reg (by kernel_rfl) ?_
        simp -dsimp
        refine Sat.cond rfl ?_
        refine Sat.sq ?_
        refine Sat.reg (by kernel_rfl) ?_
        simp -dsimp
        refine Sat.ret (RetQ.ret (n := n' + 1) (r := .tuple #[.slice none 0 0, .bool false]) (by simp) ⟨by omega, keep_upd (by omega) mk, .inl ⟨hfail hfl, _, rfl, rfl⟩⟩)
      | some b =>
        obtain ⟨hft, hb1, hb2⟩ := next_some hnx
        obtain ⟨g1, g2, g3⟩ := fits_iff.1 hft
        have g4 := safe_iff.1 g2
        simp -dsimp [nextR]
        refine Sat.sq ?_
        refine Sat.sq ?_
        refine Sat.reg (by kernel_rfl) ?_
        simp -dsimp [t8, es, t2]
        refine Sat.ite rfl (fun hd => ?_) (fun hd => ?_)
        · have hd : (acc.length : Int) = most := by simpa using hd
          have hk0 : k = 0 := by omega
          subst hk0
          refine Sat.sq ?_
          refine Sat.reg (by kernel_rfl) ?_
          simp -dsimp
          refine Sat.ret (RetQ.ret (n := n' + 1) (r := .tuple #[.slice none 0 0, .bool false]) (by simp) ⟨by omega, keep_upd (by omega) mk, .inl ⟨hfail (by simp [fastL, hc]), _, rfl, rfl⟩⟩)
        · have hd : ¬ (acc.length : Int) = most := by simpa using hd
          obtain ⟨k, rfl⟩ : ∃ k', k = k' + 1 := ⟨k - 1, by omega⟩
          refine Sat.skip ?_
          simp -dsimp
          refine Sat.sq ?_
          refine Sat.reg (by kernel_rfl) ?_
          simp -dsimp [t9, e2, e3, m1]
          refine Sat.reg (by kernel_rfl) ?_
          have hg2 : GS (upd (upd (upd h' n' ⟨[.int .i64 (v + b), .int .i64 b], 107, 0, true⟩) (n + 1) ⟨[.int .i64 (v + b), .int .i64 b], 107, 0, true⟩) (n' + 1) ⟨[.int .i64 (v + b)], 2, 0, true⟩) 2 1 s (ints acc) acc.length (n + 2) (n' + 2) := by
            refine hg.frame (fun L h1 h2 => ?_) (by omega)
            rw [upd_at, if_neg (by omega), upd_at, if_neg (by omega), upd_at, if_neg (by omega)]
          have happ := hg2.append (P := Try.prog) (t := 39) (L := n' + 2) (B := n' + 1) (xs := [.int .i64 (v + b)]) (bo := true) Try.underlying39 c2 b2 z2 rfl (by omega) (by omega) (by simp [upd_at]) rfl (Nat.le_refl _) (by omega) (by omega)
          obtain ⟨s2, E, ha, hfr, hal, hal2, hg3⟩ := happ
          have hf1 : eff (upd (upd (upd h' n' ⟨[.int .i64 (v + b), .int .i64 b], 107, 0, true⟩) (n + 1) ⟨[.int .i64 (v + b), .int .i64 b], 107, 0, true⟩) (n' + 1) ⟨[.int .i64 (v + b)], 2, 0, true⟩) E (n + 1) = some ⟨[.int .i64 (v + b), .int .i64 b], 107, 0, true⟩ := by
            rw [hfr _ (by omega), upd_at, if_neg (by omega), upd_at, if_pos rfl]
          have hf0 : eff (upd (upd (upd h' n' ⟨[.int .i64 (v + b), .int .i64 b], 107, 0, true⟩) (n + 1) ⟨[.int .i64 (v + b), .int .i64 b], 107, 0, true⟩) (n' + 1) ⟨[.int .i64 (v + b)], 2, 0, true⟩) E n = some ⟨[.int .i64 S, .int .i64 A, .int .i64 j], 25, 0, true⟩ := by
            rw [hfr _ (by omega), upd_at, if_neg (by omega), upd_at, if_neg (by omega), upd_at, if_neg (by omega), m0]
          have hfk : ∀ L, L < n → eff (upd (upd (upd h' n' ⟨[.int .i64 (v + b), .int .i64 b], 107, 0, true⟩) (n + 1) ⟨[.int .i64 (v + b), .int .i64 b], 107, 0, true⟩) (n' + 1) ⟨[.int .i64 (v + b)], 2, 0, true⟩) E L = h L := by
            intro L hL
            rw [hfr _ (by omega), upd_at, if_neg (by omega), upd_at, if_neg (by omega), upd_at, if_neg (by omega), mk L hL]
          simp -dsimp [t8, t9, e2, ha, -eff, -allocs]
          generalize eff (upd (upd (upd h' n' ⟨[.int .i64 (v + b), .int .i64 b], 107, 0, true⟩) (n + 1) ⟨[.int .i64 (v + b), .int .i64 b], 107, 0, true⟩) (n' + 1) ⟨[.int .i64 (v + b)], 2, 0, true⟩) E = h5 at *
          generalize allocs (n' + 2) E = n5 at *
          refine Sat.reg (by kernel_rfl) ?_
          simp -dsimp [t2, t3, t9, t10, hf0, hf1]
          simp -dsimp (disch := omega) only [wrap_in]
          refine ⟨k, ⟨v + b, b, ⟨rfl, rfl⟩, by omega, hfk, acc ++ [v + b], ?_, g2, by omega, by omega, by simp; omega, ?_⟩, by omega⟩
          · simpa [ints] using hg3
          · rw [← hf, show fastL S A j (k + 1) v a rest = (fastL S A j k (v + b) b (rest - (v + b))).map ((v + b) :: ·) by rw [fastL, if_pos hc, hnx]; rfl]
            cases fastL S A j k (v + b) b (rest - (v + b)) <;> simp
    · have hc : ¬ 0 < rest := by simpa using hc
      have hfl : fastL S A j k v a rest = some [] := by cases k <;> simp [fastL, hc]
      rw [hfl] at hf
      simp only [Option.map_some, List.append_nil] at hf
      have hfm := efast _ rfl
      rw [← hf] at hfm
      refine Sat.exit ?_
      simp -dsimp
      refine Sat.sq ?_
      refine Sat.reg (by kernel_rfl) ?_
      simp -dsimp [t8, t3, m0]
      refine (w77 S A j acc s h' n' (hg.read (Nat.le_refl _)) (by omega)).useH ?_
      simp -dsimp
      refine Sat.ret (RetQ.ret (n := n') (r := .tuple #[s, .bool (smoothM S A j acc)]) (by simp [es]) ⟨by omega, mk, ?_⟩)
      cases hsm : smoothM S A j acc
      · exact .inl ⟨by rw [hfm]; simp [hsm], s, rfl, by rw [es]; rfl⟩
      · exact .inr ⟨acc, s, by rw [hfm]; simp [hsm], rfl, hg.lo (by omega)⟩

end Go.Proofs.Ytoinimkmoojcoaa
/- Walks, part A9. -/
set_option maxRecDepth 100000
set_option maxHeartbeats 4000000
set_option linter.unusedSimpArgs false
set_option linter.unusedVariables false
namespace Go.Proofs.Ytoinimkmoojcoaa
open Go Go.Dm
attribute [local simp ↓] RunS_nil RunS_op RunS_guard RunT_nil RunT_op RunT_guard opS_call opD_call opS_move opD_move opS_assign opD_assign opS_pick opD_pick opS_nilCheck opD_nilCheck opS_fieldAddr opD_fieldAddr opS_indexAddr opD_indexAddr opS_load opD_load opS_store opD_store opS_alloc opD_alloc opS_box opD_box opS_build opD_build opS_buildSlice opD_buildSlice opS_field opD_field opS_extract opD_extract opS_makeFunc opD_makeFunc opS_slice opD_slice opS_binOp opD_binOp opS_unOp opD_unOp opS_convert opD_convert opS_index opD_index opS_len opD_len opS_append opD_append opS_max opD_max opS_min opD_min obind_some obind_none thenH_normal thenH_ret thenH_exit blockA_normal blockA_ret blockA_exit thenA_normal thenA_ret thenA_exit dstAt_mk dstL_zero dstL_succ
attribute [local simp] undef wantG_bool wantG_undef findO_some calleeS find putA ev closed3 closed2 closed1 closed0 pickA binF unF convF mxF eqNilA fastBin fastUn fastConv intBin argEnv resultsA resultsL resultA notTuple allocs eff
  loadO storeO allocO boxO sliceO indexO indexAddrA loadA storeA newA isAggT nilCheckA lenA evAll evParts aadd gen upd_at upd_upd Value.cells mxV Pairs apart readsS labOf putAt fieldA partA extractA makeFuncA evOpt boundOf sliceA Nat.add_assoc
attribute [local simp] bu107_z bu107_0_1 bu25_0_1_2 bu36_z bu36_0_1 bu36_0_1_2 bu36_0 bu38_z bu38_0_1_2_3_4 bu38_0_1_3 bu38_0_1_3_4 bu38_1_2 bu38_1_2_3 bu52_0_1_10 bu81_0_1 bs22_0_z bs22_1_0 bs22_2_0_1 bs39_1_0 bs39_7_0_1_2_3_4_5_6 bs95_4_0_1_2_3
attribute [local simp ↓] eql107 neq107 eql36 neq36 eql38 neq38 eql25 neq25
attribute [local simp] fa25_0 fa25_1 fa25_2 fa36_0 fa36_1 fa36_2 fa38_0 fa38_1 fa38_2 fa38_3 fa38_4 fa107_0 fa107_1 fa81_0 fa81_1 fa81_2 fa81_3 fa81_4 fa81_5 fa81_6 fa81_7 fa81_8 fa81_9 fa81_10 fa52_0 fa52_1 fa52_2 fa52_3 fa52_4 fa52_5 fa52_6 fa52_7 fa52_8 fa52_9 fa52_10 fa52_11 fa52_12
attribute [local simp] c25 c38 c2 c3 c4 c36 c107 c30 z25 z38 z2 z3 z4 z36 z107 b38 b25 b107 h38 h25 h36 h107 g38 g25 g36 g107 Try.underlying25 Try.underlying38 Try.underlying2 Try.underlying3 Try.underlying4 Try.underlying36 Try.underlying22 Try.underlying39 Try.underlying29 Try.underlying81 Try.underlying107 Try.underlying30
attribute [local simp] mx mn
def stepsPost (S A j m : Int) (h : Heap) (n : Nat) (r : Value) (h' : Heap) (n' : Nat) : Prop :=
  n ≤ n' ∧ (∀ L, L < n → h' L = h L) ∧ ∃ s, r = .tuple #[s, .int .i64 (stepsM S A j m).2] ∧ GS h' 2 1 s (ints (stepsM S A j m).1) (stepsM S A j m).1.length n n'
theorem w16 (S A j m : Int) (h : Heap) (n : Nat) :
    Dm.Spec Try.prog 16 [.int .i64 m, .agg #[.int .i64 S, .int .i64 A, .int .i64 j]] h n (stepsPost S A j m h n) := by
  refine Spec.body Try.func16 rfl (by kernel_rfl) Try.ntmps16 (by rw [Try.results16]) (Nat.le_of_ble_eq_true rfl) ?_
  refine Sat.sq ?_
  refine Sat.reg (by kernel_rfl) ?_
  simp -dsimp
  refine Sat.sq ?_
  refine Sat.reg (by kernel_rfl) ?_
  simp -dsimp
  refine (w47 ..).useH ?_
  simp -dsimp [ticksR]
  refine Sat.sq ?_
  refine Sat.sq ?_
  refine Sat.reg (by kernel_rfl) ?_
  simp -dsimp
  refine Sat.ite rfl (fun hc => ?_) (fun hc => ?_)
  · have hc : (ticksM S A j m).2 ≠ 0 := by simpa using hc
    refine Sat.sq ?_
    refine Sat.reg (by kernel_rfl) ?_
    simp -dsimp
    have e : stepsM S A j m = ([], (ticksM S A j m).2) := by unfold stepsM; simp only; rw [if_pos hc]
    refine Sat.ret (RetQ.ret (n := n + 1) (r := .tuple #[.slice none 0 0, .int .i64 (ticksM S A j m).2]) (by simp) ⟨by omega, keep_upd (by omega) keep_refl, ?_⟩)
    rw [e]; exact ⟨_, rfl, .nil⟩
  have hc : (ticksM S A j m).2 = 0 := by simpa using hc
  have ht := hc
  unfold ticksM at ht
  split at ht
  · simp at ht
  rename_i hv0
  split at ht
  · simp at ht
  rename_i hm1
  have hv : validM S A j = true := by
    cases hh : validM S A j
    · exact absurd (.inl hh) hv0
    · rfl
  have hm : 0 ≤ m ∧ m ≤ 1000000000000 := by
    constructor
    · have : ¬ m < 0 := fun hh => hv0 (.inr hh)
      omega
    · omega
  have hu := simple_pos hv
  have et : (ticksM S A j m).1 = (m + simpleM S A j - 1) / simpleM S A j := by unfold ticksM; rw [if_neg hv0, if_neg hm1]
  have hv' := valid_iff.1 hv
  have ht0 : 0 ≤ (ticksM S A j m).1 := by rw [et]; exact Int.ediv_nonneg (by omega) (by omega)
  have htm : m ≤ (ticksM S A j m).1 * simpleM S A j := by
    rw [et]
    have := Int.lt_ediv_add_one_mul_self (m + simpleM S A j - 1) (show 0 < simpleM S A j by omega)
    rw [Int.add_mul] at this; omega
  refine Sat.skip ?_
  simp -dsimp
  refine Sat.sq ?_
  refine Sat.sq ?_
  refine Sat.reg (by kernel_rfl) ?_
  simp -dsimp
  refine Sat.ite rfl (fun hd => ?_) (fun hd => ?_)
  · have hd : 100000 < (ticksM S A j m).1 := by simpa using hd
    refine Sat.sq ?_
    refine Sat.reg (by kernel_rfl) ?_
    simp -dsimp
    have e : stepsM S A j m = ([], 3) := by unfold stepsM; simp only; rw [if_neg (by simp [hc]), if_pos hd]
    refine Sat.ret (RetQ.ret (n := n + 1) (r := .tuple #[.slice none 0 0, .int .i64 3]) (by simp) ⟨by omega, keep_upd (by omega) keep_refl, ?_⟩)
    rw [e]; exact ⟨_, rfl, .nil⟩
  have hd : (ticksM S A j m).1 ≤ 100000 := by simpa using hd
  have es : stepsM S A j m = match fastM S A j m (ticksM S A j m).1 with
    | some l => (l, 0)
    | none => (fbL (simpleM S A j) (ticksM S A j m).1.toNat m, 0) := by
    unfold stepsM; simp only; rw [if_neg (by simp [hc]), if_neg (by omega)]; rfl
  clear et ht
  generalize (ticksM S A j m).1 = t at *
  refine Sat.skip ?_
  simp -dsimp
  refine Sat.sq ?_
  refine Sat.sq ?_
  refine Sat.reg (by kernel_rfl) ?_
  simp -dsimp
  refine (w48 S A j m t hv hm ⟨ht0, hd⟩ _ _).onH ?_
  rintro r h1 n1 ⟨f1, f2, f3⟩
  have f4 : h1 n = some ⟨[.int .i64 S, .int .i64 A, .int .i64 j], 25, 0, true⟩ := by rw [f2 _ (by omega), upd_at, if_pos rfl]
  have f5 : ∀ L, L < n → h1 L = h L := fun L hL => by rw [f2 _ (by omega), upd_at, if_neg (by omega)]
  rcases f3 with ⟨hno, s, rfl, hs⟩ | ⟨l, s, hyes, rfl, hg⟩
  · rw [hno] at es
    simp only at es
    simp -dsimp
    refine Sat.sq ?_
    refine Sat.reg (by kernel_rfl) ?_
    simp -dsimp
    refine Sat.cond rfl ?_
    refine Sat.skip ?_
    simp -dsimp
    refine Sat.sq ?_
    refine Sat.reg (by kernel_rfl) ?_
    simp -dsimp
    refine Sat.sq ?_
    refine Sat.reg (by kernel_rfl) ?_
    simp -dsimp [f4]
    refine (w49 _ _ _ (by omega)).useH ?_
    simp -dsimp
    have hu0 : ¬ simpleM S A j = 0 := by omega
    generalize simpleM S A j = u at *
    refine Sat.sq ?_
    refine Sat.sq ?_
    refine Sat.reg (by kernel_rfl) ?_
    simp -dsimp
    refine Sat.block ?_
    refine Sat.loop (ι := Nat × Int × List Int) (fun i T h' n' => find T 11 = some (.int .i64 u) ∧ find T 12 = some (.int .i64 i.2.1) ∧ n1 ≤ n' ∧ (∀ L, L < n → h' L = h L) ∧
      (∃ s, find T 10 = some s ∧ GS h' 2 1 s (ints i.2.2) i.2.2.length n1 n') ∧ 0 ≤ i.2.1 ∧ i.2.1 ≤ 1000000000000 ∧ i.2.1 ≤ i.1 * u ∧ i.2.2.length + i.1 = t.toNat ∧ i.2.2 ++ fbL u i.1 i.2.1 = fbL u t.toNat m) (fun i => i.1) (t.toNat, m, []) ?_ ?_
    · simp -dsimp
      refine ⟨f5, .nil, hm.1, hm.2, ?_⟩
      rw [show max t 0 = t by omega]; exact htm
    · rintro ⟨k, rest, acc⟩ T h' n' ⟨t11, t12, hn, mk, ⟨s3, t10, hg⟩, hr0, hr1, hr2, hk, hf⟩
      simp only at t12 hg hr0 hr1 hr2 hk hf
      obtain ⟨A1, c1, es3⟩ := hg.val
      refine Sat.sq ?_
      refine Sat.sq ?_
      refine Sat.reg (by kernel_rfl) ?_
      simp -dsimp [t12]
      refine Sat.ite rfl (fun hc => ?_) (fun hc => ?_)
      · have hc : 0 < rest := by simpa using hc
        obtain ⟨k, rfl⟩ : ∃ k', k = k' + 1 := by
          cases k with
          | zero => simp at hr2; omega
          | succ k => exact ⟨k, rfl⟩
        have q1 := Int.emod_nonneg (rest - 1) hu0
        have q2 := Int.emod_lt_of_pos (rest - 1) (show 0 < u by omega)
        have q3 := Int.mul_ediv_add_emod (rest - 1) u
        have q4 : (rest - 1) / u < (k : Int) + 1 := by
          rw [Int.ediv_lt_iff_lt_mul (by omega)]
          push_cast at hr2; omega
        have q5 : u * ((rest - 1) / u) ≤ u * k := Int.mul_le_mul_of_nonneg_left (by omega) (by omega)
        have q7 : 0 ≤ u * ((rest - 1) / u) := Int.mul_nonneg (by omega) (Int.ediv_nonneg (by omega) (by omega))
        rw [Int.mul_comm u k] at q5
        have q6 : (rest - 1).tmod u = (rest - 1) % u := Int.tmod_eq_emod_of_nonneg (by omega)
        refine Sat.skip ?_
        simp -dsimp
        refine Sat.sq ?_
        refine Sat.block ?_
        refine Sat.reg (by kernel_rfl) ?_
        have W1 : IntKind.i64.wrap (rest - 1) = rest - 1 := wrap_in (by omega) (by omega)
        have W2 : IntKind.i64.wrap ((rest - 1) % u + 1) = (rest - 1) % u + 1 := wrap_in (by omega) (by omega)
        have hg2 : GS (upd h' n' ⟨[.int .i64 ((rest - 1) % u + 1)], 2, 0, true⟩) 2 1 s3 (ints acc) acc.length n1 (n' + 1) := by
          refine hg.frame (fun L h1 h2 => ?_) (by omega)
          rw [upd_at, if_neg (by omega)]
        have happ := hg2.append (P := Try.prog) (t := 39) (L := n' + 1) (B := n') (xs := [.int .i64 ((rest - 1) % u + 1)]) (bo := true) Try.underlying39 c2 b2 z2 rfl (by omega) (by omega) (by simp [upd_at]) rfl (Nat.le_refl _) (by omega) (by omega)
        obtain ⟨s2, E, ha, hfr, hal, hal2, hg3⟩ := happ
        have hfk : ∀ L, L < n → eff (upd h' n' ⟨[.int .i64 ((rest - 1) % u + 1)], 2, 0, true⟩) E L = h L := by
          intro L hL
          rw [hfr _ (by omega), upd_at, if_neg (by omega), mk L hL]
        simp -dsimp [t10, t11, t12, hu0, W1, q6, W2, ha, -eff, -allocs]
        generalize eff (upd h' n' ⟨[.int .i64 ((rest - 1) % u + 1)], 2, 0, true⟩) E = h5 at *
        generalize allocs (n' + 1) E = n5 at *
        have hrd : RS h5 n5 1 s2 (ints (acc ++ [(rest - 1) % u + 1])) (acc ++ [(rest - 1) % u + 1]).length := by
          have := hg3.read (Nat.le_refl _); simpa [ints] using this
        obtain ⟨a1, c1, b1, w1, w2, w3, w4, w5⟩ := ints_at hrd (i := acc.length) (by simp)
        rw [List.length_append] at w1
        simp only [List.length_singleton] at w1
        have w6 : (acc ++ [(rest - 1) % u + 1])[acc.length]'(by simp) = (rest - 1) % u + 1 := by simp
        rw [w6] at w5
        refine Sat.reg (by kernel_rfl) ?_
        have W3 : IntKind.i64.wrap (acc.length : Int) = acc.length := wrap_in (by omega) (by omega)
        have W4 : IntKind.i64.wrap (rest - ((rest - 1) % u + 1)) = rest - ((rest - 1) % u + 1) := wrap_in (by omega) (by omega)
        have W5 : (acc.length : Int) < acc.length + 1 := by omega
        rw [gen] at w4
        have hg4 : GS h5 2 1 (.slice (some a1) (acc.length + 1) c1) (ints (acc ++ [(rest - 1) % u + 1])) (acc ++ [(rest - 1) % u + 1]).length n1 n5 := by rw [← w1]; simpa [ints] using hg3
        simp -dsimp [t11, t12, w1, W3, W4, W5, w3, w4, w5, -eff, -allocs]
        refine ⟨k, ⟨by omega, hfk, acc ++ [(rest - 1) % u + 1], hg4, by omega, by omega, by omega, by simp; omega, ?_⟩, by omega⟩
        rw [← hf, fbL, if_pos hc]; simp
      · have hc : ¬ 0 < rest := by simpa using hc
        have hfb : fbL u k rest = [] := by cases k <;> simp [fbL, hc]
        rw [hfb, List.append_nil] at hf
        refine Sat.exit ?_
        simp -dsimp
        refine Sat.sq ?_
        refine Sat.reg (by kernel_rfl) ?_
        simp -dsimp [t10]
        refine Sat.ret (RetQ.ret (n := n') (r := .tuple #[s3, .int .i64 0]) (by simp [es3]) ⟨by omega, mk, ?_⟩)
        rw [es, ← hf]; exact ⟨_, rfl, hg.lo (by omega)⟩
  · rw [hyes] at es
    simp only at es
    simp -dsimp
    refine Sat.sq ?_
    refine Sat.reg (by kernel_rfl) ?_
    simp -dsimp
    refine Sat.cond rfl ?_
    refine Sat.sq ?_
    refine Sat.reg (by kernel_rfl) ?_
    simp -dsimp
    obtain ⟨A1, c1, e1⟩ := hg.val
    refine Sat.ret (RetQ.ret (n := n1) (r := .tuple #[s, .int .i64 0]) (by simp [e1]) ⟨by omega, f5, ?_⟩)
    rw [es]; exact ⟨_, rfl, hg.lo (by omega)⟩

end Go.Proofs.Ytoinimkmoojcoaa
/- Walks, part A10. -/
set_option maxRecDepth 100000
set_option maxHeartbeats 4000000
set_option linter.unusedSimpArgs false
set_option linter.unusedVariables false
namespace Go.Proofs.Ytoinimkmoojcoaa
open Go Go.Dm
attribute [local simp ↓] RunS_nil RunS_op RunS_guard RunT_nil RunT_op RunT_guard opS_call opD_call opS_move opD_move opS_assign opD_assign opS_pick opD_pick opS_nilCheck opD_nilCheck opS_fieldAddr opD_fieldAddr opS_indexAddr opD_indexAddr opS_load opD_load opS_store opD_store opS_alloc opD_alloc opS_box opD_box opS_build opD_build opS_buildSlice opD_buildSlice opS_field opD_field opS_extract opD_extract opS_makeFunc opD_makeFunc opS_slice opD_slice opS_binOp opD_binOp opS_unOp opD_unOp opS_convert opD_convert opS_index opD_index opS_len opD_len opS_append opD_append opS_max opD_max opS_min opD_min obind_some obind_none thenH_normal thenH_ret thenH_exit blockA_normal blockA_ret blockA_exit thenA_normal thenA_ret thenA_exit dstAt_mk dstL_zero dstL_succ
attribute [local simp] undef wantG_bool wantG_undef findO_some calleeS find putA ev closed3 closed2 closed1 closed0 pickA binF unF convF mxF eqNilA fastBin fastUn fastConv intBin argEnv resultsA resultsL resultA notTuple allocs eff
  loadO storeO allocO boxO sliceO indexO indexAddrA loadA storeA newA isAggT nilCheckA lenA evAll evParts aadd gen upd_at upd_upd Value.cells mxV Pairs apart readsS labOf putAt fieldA partA extractA makeFuncA evOpt boundOf sliceA Nat.add_assoc
attribute [local simp] bu107_z bu107_0_1 bu25_0_1_2 bu36_z bu36_0_1 bu36_0_1_2 bu36_0 bu38_z bu38_0_1_2_3_4 bu38_0_1_3 bu38_0_1_3_4 bu38_1_2 bu38_1_2_3 bu52_0_1_10 bu81_0_1 bs22_0_z bs22_1_0 bs22_2_0_1 bs39_1_0 bs39_7_0_1_2_3_4_5_6 bs95_4_0_1_2_3
attribute [local simp ↓] eql107 neq107 eql36 neq36 eql38 neq38 eql25 neq25
attribute [local simp] fa25_0 fa25_1 fa25_2 fa36_0 fa36_1 fa36_2 fa38_0 fa38_1 fa38_2 fa38_3 fa38_4 fa107_0 fa107_1 fa81_0 fa81_1 fa81_2 fa81_3 fa81_4 fa81_5 fa81_6 fa81_7 fa81_8 fa81_9 fa81_10 fa52_0 fa52_1 fa52_2 fa52_3 fa52_4 fa52_5 fa52_6 fa52_7 fa52_8 fa52_9 fa52_10 fa52_11 fa52_12
attribute [local simp] c25 c38 c2 c3 c4 c36 c107 c30 z25 z38 z2 z3 z4 z36 z107 b38 b25 b107 h38 h25 h36 h107 g38 g25 g36 g107 Try.underlying25 Try.underlying38 Try.underlying2 Try.underlying3 Try.underlying4 Try.underlying36 Try.underlying22 Try.underlying39 Try.underlying29 Try.underlying81 Try.underlying107 Try.underlying30
attribute [local simp] mx mn
theorem mul_range {a b A B : Int} (ha : -A ≤ a ∧ a ≤ A) (hb : 0 ≤ b ∧ b ≤ B) (hA : 0 ≤ A) : -(A * B) ≤ a * b ∧ a * b ≤ A * B := by
  have h1 : a * b ≤ A * b := Int.mul_le_mul_of_nonneg_right ha.2 hb.1
  have h2 : -A * b ≤ a * b := Int.mul_le_mul_of_nonneg_right ha.1 hb.1
  have h3 : A * b ≤ A * B := Int.mul_le_mul_of_nonneg_left hb.2 hA
  rw [Int.neg_mul] at h2
  omega
theorem w82 (x y part len : Int) (L1 L2 : Nat) (h : Heap) (n : Nat) (o1 o2 : Bool) (h1 : h L1 = some ⟨[.int .i64 part], 2, 0, o1⟩) (h2 : h L2 = some ⟨[.int .i64 len], 2, 0, o2⟩) (hx : -40000000 ≤ x ∧ x ≤ 40000000) (hy : -40000000 ≤ y ∧ y ≤ 40000000) (hl : 1 ≤ len ∧ len ≤ 40000000) (hp : 0 ≤ part ∧ part ≤ len) :
    Dm.Spec Try.prog 82 [.int .i64 x, .int .i64 y, .pointer (some ⟨L1, 0, none⟩), .pointer (some ⟨L2, 0, none⟩)] h n fun r' h' n' => r' = .int .i64 (posM x y part len) ∧ h' = h ∧ n' = n := by
  refine pureAt Try.func82 rfl (by kernel_rfl) Try.ntmps82 (by rw [Try.results82]) (Nat.le_of_ble_eq_true rfl) ?_
  have r1 := mul_range (a := 2 * (y - x)) (b := part) (A := 160000000) (B := 40000000) (by omega) (by omega) (by omega)
  have r2 := ediv_range (a := 2 * (y - x) * part + len) (b := 2 * len) (by omega) (k := 10000000000000000) (by omega) (by omega) (by omega)
  refine Sat.sq ?_
  refine Sat.reg (by kernel_rfl) ?_
  simp -dsimp
  refine Sat.sq ?_
  refine Sat.reg (by kernel_rfl) ?_
  simp -dsimp [h1, h2]
  simp -dsimp (disch := omega) only [wrap_in]
  refine (w83 _ _ (by omega) (by omega) (by omega)).useH ?_
  simp -dsimp
  simp -dsimp (disch := omega) only [wrap_in]
  refine Sat.ret (PureQ.ret rfl keep_refl ?_)
  simp [posM]
abbrev u67_10 : List (Nat × Nat) := [(5, 8), (5, 10), (5, 14), (11, 14), (5, 16), (11, 16)]
def okc (x : Int) : Prop := -40000000 ≤ x ∧ x ≤ 40000000
theorem w67 (ax ay az bx cy bz part len : Int) (ha : okc ax ∧ okc ay ∧ okc az) (hb : okc bx ∧ okc cy ∧ okc bz) (hl : 1 ≤ len ∧ len ≤ 40000000) (hp : 0 ≤ part ∧ part ≤ len) :
    Pure Try.prog 67 [.agg #[.int .i64 ax, .int .i64 ay, .int .i64 az], .agg #[.int .i64 bx, .int .i64 cy, .int .i64 bz], .int .i64 part, .int .i64 len]
      (.tuple #[.agg #[.int .i64 (posM ax bx part len), .int .i64 (posM ay cy part len), .int .i64 (posM az bz part len)], .int .i64 0]) := by
  refine Pure.of_body Try.func67 rfl (by kernel_rfl) Try.ntmps67 (by rw [Try.results67]) (Nat.le_of_ble_eq_true rfl) fun h n => ?_
  obtain ⟨a1, a2, a3⟩ := ha
  obtain ⟨b1, b2, b3⟩ := hb
  have p1 : ¬ len < 1 := by omega
  have p2 : ¬ part < 0 := by omega
  have p3 : ¬ len < part := by omega
  refine Sat.sq ?_
  refine Sat.reg (by kernel_rfl) ?_
  simp -dsimp
  refine Sat.sq ?_
  refine Sat.sq ?_
  refine Sat.reg (by kernel_rfl) ?_
  simp -dsimp [p1, p2, p3]
  refine Sat.cond rfl ?_
  refine Sat.skip ?_
  simp -dsimp
  refine Sat.sq ?_
  refine Sat.sq ?_
  refine Sat.reg (by kernel_rfl) ?_
  simp -dsimp
  refine Sat.block ?_
  have hall : ∀ i : Nat, i < 7 → ∃ x, okc x ∧ ([.int .i64 len, .int .i64 ax, .int .i64 ay, .int .i64 az, .int .i64 bx, .int .i64 cy, .int .i64 bz] : List Value)[i]? = some (.int .i64 x) := by
    intro i hi
    have : i = 0 ∨ i = 1 ∨ i = 2 ∨ i = 3 ∨ i = 4 ∨ i = 5 ∨ i = 6 := by omega
    rcases this with rfl | rfl | rfl | rfl | rfl | rfl | rfl
    · exact ⟨len, ⟨by omega, by omega⟩, rfl⟩
    · exact ⟨_, a1, rfl⟩
    · exact ⟨_, a2, rfl⟩
    · exact ⟨_, a3, rfl⟩
    · exact ⟨_, b1, rfl⟩
    · exact ⟨_, b2, rfl⟩
    · exact ⟨_, b3, rfl⟩
  refine Sat.loop (ι := Nat) (fun i T h' n' => find T 4 = some (.pointer (some ⟨n, 0, none⟩)) ∧ find T 5 = some (.pointer (some ⟨n + 1, 0, none⟩)) ∧ find T 6 = some (.pointer (some ⟨n + 2, 0, none⟩)) ∧ find T 7 = some (.pointer (some ⟨n + 3, 0, none⟩)) ∧
    find T 8 = some (.pointer (some ⟨n + 4, 0, none⟩)) ∧ find T 38 = some (.slice (some ⟨n + 5, 0, none⟩) 7 1) ∧ find T 39 = some (.int .i64 7) ∧ find T 40 = some (.int .i64 i) ∧
    h' n = some ⟨[.int .i64 ax, .int .i64 ay, .int .i64 az], 36, 0, true⟩ ∧ h' (n + 1) = some ⟨[.int .i64 bx, .int .i64 cy, .int .i64 bz], 36, 0, true⟩ ∧ h' (n + 2) = some ⟨[.int .i64 part], 2, 0, true⟩ ∧ h' (n + 3) = some ⟨[.int .i64 len], 2, 0, true⟩ ∧
    h' (n + 4) = some ⟨[.int .i64 0, .int .i64 0, .int .i64 0], 36, 0, true⟩ ∧ h' (n + 5) = some ⟨[.int .i64 len, .int .i64 ax, .int .i64 ay, .int .i64 az, .int .i64 bx, .int .i64 cy, .int .i64 bz], 2, 0, true⟩ ∧
    (∀ L, L < n → h' L = h L) ∧ i ≤ 7) (fun i => 7 - i) 0 ?_ ?_
  · simp -dsimp
    intro L hL
    rw [if_neg (by omega), if_neg (by omega), if_neg (by omega), if_neg (by omega), if_neg (by omega), if_neg (by omega)]
  · rintro i T h' n' ⟨t4, t5, t6, t7, t8, t38, t39, t40, m0, m1, m2, m3, m4, m5, mk, hi⟩
    refine Sat.sq ?_
    refine Sat.reg (by kernel_rfl) ?_
    simp -dsimp [t39, t40]
    refine Sat.sq ?_
    refine Sat.ite rfl (fun hc => ?_) (fun hc => ?_)
    · have hc : i < 7 := by simp at hc; omega
      obtain ⟨x, hx, hxi⟩ := hall i hc
      have hc2 : (i : Int) < 7 := by omega
      have hw : withinB x (-40000000) 40000000 = true := within_iff.2 hx
      refine Sat.skip ?_
      simp -dsimp
      refine Sat.sq ?_
      refine Sat.block ?_
      refine Sat.sq ?_
      refine Sat.reg (by kernel_rfl) ?_
      simp -dsimp [t38, t40, hc2, m5, hxi]
      refine Sat.sq ?_
      refine Sat.reg (by kernel_rfl) ?_
      simp -dsimp
      refine (w74 ..).useH ?_
      simp -dsimp [hw]
      refine Sat.cond rfl ?_
      refine Sat.skip ?_
      simp -dsimp
      refine Sat.reg (by kernel_rfl) ?_
      have W : IntKind.i64.wrap ((i : Int) + 1) = i + 1 := wrap_in (by omega) (by omega)
      simp -dsimp [t4, t5, t6, t7, t8, t38, t39, t40, m0, m1, m2, m3, m4, m5, W]
      refine ⟨i + 1, ⟨by omega, mk, by omega⟩, by omega⟩
    · refine Sat.exit ?_
      simp -dsimp
      refine Sat.sq ?_
      refine Sat.reg (by kernel_rfl) ?_
      simp -dsimp [t6, t7]
      refine Sat.sq ?_
      refine Sat.drw u67_10 mixed (by kernel_rfl) (by kernel_rfl) (by kernel_rfl) (by kernel_rfl) ?_
      simp -dsimp [t4, t5, m0, m1]
      refine callD.reads _ [n + 2, n + 3] (fun h2 n2 hh => w82 ax bx part len (n + 2) (n + 3) h2 n2 true true (by rw [hh _ (by simp), m2]) (by rw [hh _ (by simp), m3]) a1 b1 hl hp) ?_
      simp -dsimp [t4, t5, m0, m1]
      refine callD.reads _ [n + 2, n + 3] (fun h2 n2 hh => w82 ay cy part len (n + 2) (n + 3) h2 n2 true true (by rw [hh _ (by simp), m2]) (by rw [hh _ (by simp), m3]) a2 b2 hl hp) ?_
      simp -dsimp [t4, t5, m0, m1]
      refine callD.reads _ [n + 2, n + 3] (fun h2 n2 hh => w82 az bz part len (n + 2) (n + 3) h2 n2 true true (by rw [hh _ (by simp), m2]) (by rw [hh _ (by simp), m3]) a3 b3 hl hp) ?_
      simp -dsimp [t4, t5, t8, m0, m1, m4]
      refine Sat.ret (PureQ.ret (n := n') rfl (keep_upd (by omega) mk) ?_)
      simp [t8]

end Go.Proofs.Ytoinimkmoojcoaa
/- Walks, part A11. -/
set_option maxRecDepth 100000
set_option maxHeartbeats 4000000
set_option linter.unusedSimpArgs false
set_option linter.unusedVariables false
namespace Go.Proofs.Ytoinimkmoojcoaa
open Go Go.Dm
attribute [local simp ↓] RunS_nil RunS_op RunS_guard RunT_nil RunT_op RunT_guard opS_call opD_call opS_move opD_move opS_assign opD_assign opS_pick opD_pick opS_nilCheck opD_nilCheck opS_fieldAddr opD_fieldAddr opS_indexAddr opD_indexAddr opS_load opD_load opS_store opD_store opS_alloc opD_alloc opS_box opD_box opS_build opD_build opS_buildSlice opD_buildSlice opS_field opD_field opS_extract opD_extract opS_makeFunc opD_makeFunc opS_slice opD_slice opS_binOp opD_binOp opS_unOp opD_unOp opS_convert opD_convert opS_index opD_index opS_len opD_len opS_append opD_append opS_max opD_max opS_min opD_min obind_some obind_none thenH_normal thenH_ret thenH_exit blockA_normal blockA_ret blockA_exit thenA_normal thenA_ret thenA_exit dstAt_mk dstL_zero dstL_succ
attribute [local simp] undef wantG_bool wantG_undef findO_some calleeS find putA ev closed3 closed2 closed1 closed0 pickA binF unF convF mxF eqNilA fastBin fastUn fastConv intBin argEnv resultsA resultsL resultA notTuple allocs eff
  loadO storeO allocO boxO sliceO indexO indexAddrA loadA storeA newA isAggT nilCheckA lenA evAll evParts aadd gen upd_at upd_upd Value.cells mxV Pairs apart readsS labOf putAt fieldA partA extractA makeFuncA evOpt boundOf sliceA Nat.add_assoc
attribute [local simp] bu107_z bu107_0_1 bu25_0_1_2 bu36_z bu36_0_1 bu36_0_1_2 bu36_0 bu38_z bu38_0_1_2_3_4 bu38_0_1_3 bu38_0_1_3_4 bu38_1_2 bu38_1_2_3 bu52_0_1_10 bu81_0_1 bs22_0_z bs22_1_0 bs22_2_0_1 bs39_1_0 bs39_7_0_1_2_3_4_5_6 bs95_4_0_1_2_3
attribute [local simp ↓] eql107 neq107 eql36 neq36 eql38 neq38 eql25 neq25
attribute [local simp] fa25_0 fa25_1 fa25_2 fa36_0 fa36_1 fa36_2 fa38_0 fa38_1 fa38_2 fa38_3 fa38_4 fa107_0 fa107_1 fa81_0 fa81_1 fa81_2 fa81_3 fa81_4 fa81_5 fa81_6 fa81_7 fa81_8 fa81_9 fa81_10 fa52_0 fa52_1 fa52_2 fa52_3 fa52_4 fa52_5 fa52_6 fa52_7 fa52_8 fa52_9 fa52_10 fa52_11 fa52_12
attribute [local simp] c25 c38 c2 c3 c4 c36 c107 c30 z25 z38 z2 z3 z4 z36 z107 b38 b25 b107 h38 h25 h36 h107 g38 g25 g36 g107 Try.underlying25 Try.underlying38 Try.underlying2 Try.underlying3 Try.underlying4 Try.underlying36 Try.underlying22 Try.underlying39 Try.underlying29 Try.underlying81 Try.underlying107 Try.underlying30
attribute [local simp] mx mn
def limM (rate s : Int) : Int := if 0 < rate then min s ((rate - 1) / 1000 + 1) else s
theorem w58 (fx fy fz tx ty tz rate tool block S A j : Int) (hr : rate ≤ 9223372036854775807) :
    Pure Try.prog 58 [.agg #[.int .i64 fx, .int .i64 fy, .int .i64 fz, .int .i64 tx, .int .i64 ty, .int .i64 tz, .int .i64 rate, .int .i64 tool, .int .i64 block], .agg #[.int .i64 S, .int .i64 A, .int .i64 j]] (.agg #[.int .i64 (limM rate S), .int .i64 A, .int .i64 j]) := by
  refine Pure.of_body Try.func58 rfl (by kernel_rfl) Try.ntmps58 (by rw [Try.results58]) (Nat.le_of_ble_eq_true rfl) fun h n => ?_
  refine Sat.sq ?_
  refine Sat.reg (by kernel_rfl) ?_
  simp -dsimp
  refine Sat.sq ?_
  refine Sat.sq ?_
  refine Sat.reg (by kernel_rfl) ?_
  simp -dsimp
  refine Sat.ite rfl (fun hc => ?_) (fun hc => ?_)
  · have hc : 0 < rate := by simpa using hc
    refine Sat.reg (by kernel_rfl) ?_
    simp -dsimp
    simp -dsimp (disch := omega) only [wrap_in]
    rw [Int.tdiv_eq_ediv_of_nonneg (by omega)]
    simp -dsimp (disch := omega) only [wrap_in]
    refine Sat.sq ?_
    refine Sat.reg (by kernel_rfl) ?_
    simp -dsimp
    refine Sat.ret (PureQ.ret rfl ?_ ?_)
    · repeat (first | exact keep_refl | refine keep_upd (by omega) ?_)
    · simp [limM, hc]
  · have hc : ¬ 0 < rate := by simpa using hc
    refine Sat.skip ?_
    simp -dsimp
    refine Sat.sq ?_
    refine Sat.reg (by kernel_rfl) ?_
    simp -dsimp
    refine Sat.ret (PureQ.ret rfl ?_ ?_)
    · repeat (first | exact keep_refl | refine keep_upd (by omega) ?_)
    · simp [limM, hc]
def farM (x y z : Int) : Bool := decide (10000000 < max x (max y z)) || decide (min x (min y z) < -10000000)
theorem w75 (x y z : Int) : Pure Try.prog 75 [.agg #[.int .i64 x, .int .i64 y, .int .i64 z]] (.bool (farM x y z)) := by
  refine Pure.of_body Try.func75 rfl (by kernel_rfl) Try.ntmps75 (by rw [Try.results75]) (Nat.le_of_ble_eq_true rfl) fun h n => ?_
  refine Sat.sq ?_
  refine Sat.reg (by kernel_rfl) ?_
  simp -dsimp
  refine Sat.sq ?_
  refine Sat.reg (by kernel_rfl) ?_
  by_cases c : 10000000 < max x (max y z)
  · simp -dsimp [c]
    refine Sat.ret (PureQ.ret rfl (keep_upd (by omega) keep_refl) ?_)
    simp [farM, c]
  · simp -dsimp [c]
    refine Sat.ret (PureQ.ret rfl (keep_upd (by omega) keep_refl) ?_)
    simp [farM, c]

end Go.Proofs.Ytoinimkmoojcoaa
/- Walks, part A12. -/
set_option maxRecDepth 100000
set_option maxHeartbeats 4000000
set_option linter.unusedSimpArgs false
set_option linter.unusedVariables false
namespace Go.Proofs.Ytoinimkmoojcoaa
open Go Go.Dm
attribute [local simp ↓] RunS_nil RunS_op RunS_guard RunT_nil RunT_op RunT_guard opS_call opD_call opS_move opD_move opS_assign opD_assign opS_pick opD_pick opS_nilCheck opD_nilCheck opS_fieldAddr opD_fieldAddr opS_indexAddr opD_indexAddr opS_load opD_load opS_store opD_store opS_alloc opD_alloc opS_box opD_box opS_build opD_build opS_buildSlice opD_buildSlice opS_field opD_field opS_extract opD_extract opS_makeFunc opD_makeFunc opS_slice opD_slice opS_binOp opD_binOp opS_unOp opD_unOp opS_convert opD_convert opS_index opD_index opS_len opD_len opS_append opD_append opS_max opD_max opS_min opD_min obind_some obind_none thenH_normal thenH_ret thenH_exit blockA_normal blockA_ret blockA_exit thenA_normal thenA_ret thenA_exit dstAt_mk dstL_zero dstL_succ
attribute [local simp] undef wantG_bool wantG_undef findO_some calleeS find putA ev closed3 closed2 closed1 closed0 pickA binF unF convF mxF eqNilA fastBin fastUn fastConv intBin argEnv resultsA resultsL resultA notTuple allocs eff
  loadO storeO allocO boxO sliceO indexO indexAddrA loadA storeA newA isAggT nilCheckA lenA evAll evParts aadd gen upd_at upd_upd Value.cells mxV Pairs apart readsS labOf putAt fieldA partA extractA makeFuncA evOpt boundOf sliceA Nat.add_assoc
attribute [local simp] bu107_z bu107_0_1 bu25_0_1_2 bu36_z bu36_0_1 bu36_0_1_2 bu36_0 bu38_z bu38_0_1_2_3_4 bu38_0_1_3 bu38_0_1_3_4 bu38_1_2 bu38_1_2_3 bu52_0_1_10 bu81_0_1 bs22_0_z bs22_1_0 bs22_2_0_1 bs39_1_0 bs39_7_0_1_2_3_4_5_6 bs95_4_0_1_2_3
attribute [local simp ↓] eql107 neq107 eql36 neq36 eql38 neq38 eql25 neq25
attribute [local simp] fa25_0 fa25_1 fa25_2 fa36_0 fa36_1 fa36_2 fa38_0 fa38_1 fa38_2 fa38_3 fa38_4 fa107_0 fa107_1 fa81_0 fa81_1 fa81_2 fa81_3 fa81_4 fa81_5 fa81_6 fa81_7 fa81_8 fa81_9 fa81_10 fa52_0 fa52_1 fa52_2 fa52_3 fa52_4 fa52_5 fa52_6 fa52_7 fa52_8 fa52_9 fa52_10 fa52_11 fa52_12
attribute [local simp] c25 c38 c2 c3 c4 c36 c107 c30 z25 z38 z2 z3 z4 z36 z107 b38 b25 b107 h38 h25 h36 h107 g38 g25 g36 g107 Try.underlying25 Try.underlying38 Try.underlying2 Try.underlying3 Try.underlying4 Try.underlying36 Try.underlying22 Try.underlying39 Try.underlying29 Try.underlying81 Try.underlying107 Try.underlying30
attribute [local simp] mx mn
theorem w79 (S A j p q : Int) : Pure Try.prog 79 [.agg #[.int .i64 S, .int .i64 A, .int .i64 j], .int .i64 p, .int .i64 q] (.bool (movingM S A j p q)) := by
  refine Pure.of_body Try.func79 rfl (by kernel_rfl) Try.ntmps79 (by rw [Try.results79]) (Nat.le_of_ble_eq_true rfl) fun h n => ?_
  refine Sat.sq ?_
  refine Sat.reg (by kernel_rfl) ?_
  simp -dsimp
  refine Sat.sq ?_
  refine Sat.reg (by kernel_rfl) ?_
  simp -dsimp
  refine (w42 ..).useH ?_
  cases hv : validM S A j
  · simp -dsimp
    refine Sat.ret (PureQ.ret rfl (keep_upd (by omega) keep_refl) ?_)
    simp [movingM, hv]
  have hv' := valid_iff.1 hv
  simp -dsimp
  refine (w74 ..).useH ?_
  cases h1 : withinB p 0 S
  · simp -dsimp
    refine Sat.ret (PureQ.ret rfl (keep_upd (by omega) keep_refl) ?_)
    simp [movingM, hv, h1]
  have h1' := within_iff.1 h1
  simp -dsimp
  refine (w74 ..).useH ?_
  cases h2 : withinB q 0 S
  · simp -dsimp
    refine Sat.ret (PureQ.ret rfl (keep_upd (by omega) keep_refl) ?_)
    simp [movingM, hv, h1, h2]
  have h2' := within_iff.1 h2
  simp -dsimp
  simp -dsimp (disch := omega) only [wrap_in]
  refine (w87 _ _ _ _ _ hv (by omega)).useH ?_
  simp -dsimp
  refine Sat.ret (PureQ.ret rfl (keep_upd (by omega) keep_refl) ?_)
  simp [movingM, hv, h1, h2]
theorem moving_safe {S A j p q : Int} (h : movingM S A j p q = true) : validM S A j = true ∧ safeM S A j q (q - p) = true ∧ (0 ≤ p ∧ p ≤ S) ∧ (0 ≤ q ∧ q ≤ S) := by
  simp only [movingM, Bool.and_eq_true] at h
  exact ⟨h.1.1.1, h.2, within_iff.1 h.1.1.2, within_iff.1 h.1.2⟩
theorem w65 (S A j p q : Int) : Pure Try.prog 65 [.int .i64 p, .int .i64 q, .agg #[.int .i64 S, .int .i64 A, .int .i64 j]] (.tuple #[.int .i64 (neededM S A j p q).1, .int .i64 (neededM S A j p q).2]) := by
  refine Pure.of_body Try.func65 rfl (by kernel_rfl) Try.ntmps65 (by rw [Try.results65]) (Nat.le_of_ble_eq_true rfl) fun h n => ?_
  refine Sat.sq ?_
  refine Sat.reg (by kernel_rfl) ?_
  simp -dsimp
  refine Sat.sq ?_
  refine Sat.sq ?_
  refine Sat.reg (by kernel_rfl) ?_
  simp -dsimp
  refine (w79 ..).useH ?_
  cases hm : movingM S A j p q
  · simp -dsimp
    refine Sat.cond rfl ?_
    refine Sat.sq ?_
    refine Sat.reg (by kernel_rfl) ?_
    simp -dsimp
    refine Sat.ret (PureQ.ret rfl (keep_upd (by omega) keep_refl) ?_)
    simp [neededM, hm]
  obtain ⟨k1, k2, k3, k4⟩ := moving_safe hm
  have hv' := valid_iff.1 k1
  simp -dsimp
  refine Sat.cond rfl ?_
  refine Sat.skip ?_
  simp -dsimp
  refine Sat.sq ?_
  refine Sat.reg (by kernel_rfl) ?_
  simp -dsimp
  simp -dsimp (disch := omega) only [wrap_in]
  refine (w80 _ _ _ _ _ k1 k2).useH ?_
  simp -dsimp
  refine Sat.ret (PureQ.ret rfl (keep_upd (by omega) keep_refl) ?_)
  simp [neededM, hm]

end Go.Proofs.Ytoinimkmoojcoaa
/- Walks, part A13. -/
set_option maxRecDepth 100000
set_option maxHeartbeats 4000000
set_option linter.unusedSimpArgs false
set_option linter.unusedVariables false
namespace Go.Proofs.Ytoinimkmoojcoaa
open Go Go.Dm
attribute [local simp ↓] RunS_nil RunS_op RunS_guard RunT_nil RunT_op RunT_guard opS_call opD_call opS_move opD_move opS_assign opD_assign opS_pick opD_pick opS_nilCheck opD_nilCheck opS_fieldAddr opD_fieldAddr opS_indexAddr opD_indexAddr opS_load opD_load opS_store opD_store opS_alloc opD_alloc opS_box opD_box opS_build opD_build opS_buildSlice opD_buildSlice opS_field opD_field opS_extract opD_extract opS_makeFunc opD_makeFunc opS_slice opD_slice opS_binOp opD_binOp opS_unOp opD_unOp opS_convert opD_convert opS_index opD_index opS_len opD_len opS_append opD_append opS_max opD_max opS_min opD_min obind_some obind_none thenH_normal thenH_ret thenH_exit blockA_normal blockA_ret blockA_exit thenA_normal thenA_ret thenA_exit dstAt_mk dstL_zero dstL_succ
attribute [local simp] undef wantG_bool wantG_undef findO_some calleeS find putA ev closed3 closed2 closed1 closed0 pickA binF unF convF mxF eqNilA fastBin fastUn fastConv intBin argEnv resultsA resultsL resultA notTuple allocs eff
  loadO storeO allocO boxO sliceO indexO indexAddrA loadA storeA newA isAggT nilCheckA lenA evAll evParts aadd gen upd_at upd_upd Value.cells mxV Pairs apart readsS labOf putAt fieldA partA extractA makeFuncA evOpt boundOf sliceA Nat.add_assoc
attribute [local simp] bu107_z bu107_0_1 bu25_0_1_2 bu36_z bu36_0_1 bu36_0_1_2 bu36_0 bu38_z bu38_0_1_2_3_4 bu38_0_1_3 bu38_0_1_3_4 bu38_1_2 bu38_1_2_3 bu52_0_1_10 bu81_0_1 bs22_0_z bs22_1_0 bs22_2_0_1 bs39_1_0 bs39_7_0_1_2_3_4_5_6 bs95_4_0_1_2_3
attribute [local simp ↓] eql107 neq107 eql36 neq36 eql38 neq38 eql25 neq25
attribute [local simp] fa25_0 fa25_1 fa25_2 fa36_0 fa36_1 fa36_2 fa38_0 fa38_1 fa38_2 fa38_3 fa38_4 fa107_0 fa107_1 fa81_0 fa81_1 fa81_2 fa81_3 fa81_4 fa81_5 fa81_6 fa81_7 fa81_8 fa81_9 fa81_10 fa52_0 fa52_1 fa52_2 fa52_3 fa52_4 fa52_5 fa52_6 fa52_7 fa52_8 fa52_9 fa52_10 fa52_11 fa52_12
attribute [local simp] c25 c38 c2 c3 c4 c36 c107 c30 z25 z38 z2 z3 z4 z36 z107 b38 b25 b107 h38 h25 h36 h107 g38 g25 g36 g107 Try.underlying25 Try.underlying38 Try.underlying2 Try.underlying3 Try.underlying4 Try.underlying36 Try.underlying22 Try.underlying39 Try.underlying29 Try.underlying81 Try.underlying107 Try.underlying30
attribute [local simp] mx mn
def stopPost (S A j p q : Int) (h : Heap) (n : Nat) (r : Value) (h' : Heap) (n' : Nat) : Prop :=
  n ≤ n' ∧ (∀ L, L < n → h' L = h L) ∧ ∃ s, r = .tuple #[s, .int .i64 (stopM S A j p q).2] ∧ GS h' 2 1 s (ints (stopM S A j p q).1) (stopM S A j p q).1.length n n'
theorem w66 (S A j p q : Int) (h : Heap) (n : Nat) :
    Dm.Spec Try.prog 66 [.int .i64 p, .int .i64 q, .agg #[.int .i64 S, .int .i64 A, .int .i64 j]] h n (stopPost S A j p q h n) := by
  refine Spec.body Try.func66 rfl (by kernel_rfl) Try.ntmps66 (by rw [Try.results66]) (Nat.le_of_ble_eq_true rfl) ?_
  refine Sat.sq ?_
  refine Sat.reg (by kernel_rfl) ?_
  simp -dsimp
  refine Sat.sq ?_
  refine Sat.sq ?_
  refine Sat.reg (by kernel_rfl) ?_
  simp -dsimp
  refine (w79 ..).useH ?_
  cases hm : movingM S A j p q
  · simp -dsimp
    refine Sat.cond rfl ?_
    refine Sat.sq ?_
    refine Sat.reg (by kernel_rfl) ?_
    simp -dsimp
    have e : stopM S A j p q = ([], 1) := by simp [stopM, hm]
    refine Sat.ret (RetQ.ret (n := n + 1) (r := .tuple #[.slice none 0 0, .int .i64 1]) (by simp) ⟨by omega, keep_upd (by omega) keep_refl, ?_⟩)
    rw [e]; exact ⟨_, rfl, .nil⟩
  obtain ⟨k1, k2, k3, k4⟩ := moving_safe hm
  have hv' := valid_iff.1 k1
  have e : stopM S A j p q = (stopL A j 400000 q (q - p), 0) := by simp [stopM, hm]
  simp -dsimp
  refine Sat.cond rfl ?_
  refine Sat.skip ?_
  simp -dsimp
  refine Sat.sq ?_
  refine Sat.reg (by kernel_rfl) ?_
  simp -dsimp
  refine Sat.sq ?_
  refine Sat.sq ?_
  refine Sat.reg (by kernel_rfl) ?_
  simp -dsimp
  simp -dsimp (disch := omega) only [wrap_in]
  refine Sat.block ?_
  refine Sat.loop (ι := Nat × Int × Int × List Int) (fun i T h' n' => find T 5 = some (.pointer (some ⟨n, 0, none⟩)) ∧ h' n = some ⟨[.int .i64 S, .int .i64 A, .int .i64 j], 25, 0, true⟩ ∧
    (∃ L, find T 9 = some (.pointer (some ⟨L, 0, none⟩)) ∧ h' L = some ⟨[.int .i64 i.2.1, .int .i64 i.2.2.1], 107, 0, true⟩ ∧ n < L ∧ L < n' ∧ ∃ s, find T 8 = some s ∧ GS h' 2 1 s (ints i.2.2.2) i.2.2.2.length (n + 1) L) ∧
    (∀ L, L < n → h' L = h L) ∧ safeM S A j i.2.1 i.2.2.1 = true ∧ mB j i.2.1 i.2.2.1 < i.1 ∧ i.2.2.2.length + i.1 ≤ 400000 ∧ i.2.2.2 ++ stopL A j i.1 i.2.1 i.2.2.1 = stopL A j 400000 q (q - p)) (fun i => i.1) (400000, q, q - p, []) ?_ ?_
  · have hb := mB_le k1 k2
    simp -dsimp
    refine ⟨.nil, fun L hL => ?_, k2, by omega⟩
    rw [if_neg (by omega), if_neg (by omega)]
  · rintro ⟨k, v, a, acc⟩ T h' n' ⟨t5, m0, ⟨Ls, t9, m1, ln, lh, s, t8, hg⟩, mk, hs, hmb, hk, hf⟩
    simp only at m1 hg hs hmb hk hf
    obtain ⟨A1, c1, es⟩ := hg.val
    refine Sat.sq ?_
    refine Sat.sq ?_
    refine Sat.reg (by kernel_rfl) ?_
    simp -dsimp [t9, m1]
    refine Sat.ite rfl (fun hc => ?_) (fun hc => ?_)
    · have hc : ¬(v = 0 ∧ a = 0) := by simp at hc; omega
      have hb := (brake_ok k1 hs).safe
      have hl := mB_less k1 hs hc
      have hb' := safe_iff.1 hb
      obtain ⟨k, rfl⟩ : ∃ k', k = k' + 1 := ⟨k - 1, by omega⟩
      rw [stopL, if_neg hc] at hf
      have hw81 := w81 S A j v a k1 hs
      generalize brakeM A j v a = b at *
      have e0 : ¬ n = Ls := by omega
      refine Sat.skip ?_
      simp -dsimp
      refine Sat.join (fun T2 h2 n2 => find T2 5 = some (.pointer (some ⟨n, 0, none⟩)) ∧ h2 n = some ⟨[.int .i64 S, .int .i64 A, .int .i64 j], 25, 0, true⟩ ∧ find T2 9 = some (.pointer (some ⟨Ls, 0, none⟩)) ∧ h2 Ls = some ⟨[.int .i64 (v + b), .int .i64 b], 107, 0, true⟩ ∧ Ls < n2 ∧ (∀ L, L < n → h2 L = h L) ∧
        ∃ s2, find T2 8 = some s2 ∧ GS h2 2 1 s2 (ints (acc ++ if 0 < v + b then [v + b] else [])) (acc ++ if 0 < v + b then [v + b] else []).length (n + 1) n2) ?_ ?_
      · have e1 : ¬ Ls = n' := by omega
        refine Sat.block ?_
        refine Sat.sq ?_
        refine Sat.reg (by kernel_rfl) ?_
        simp -dsimp [t5, t9, m0, m1]
        refine hw81.useH ?_
        simp -dsimp [t9, m1, e1]
        refine Sat.sq ?_
        refine Sat.reg (by kernel_rfl) ?_
        simp -dsimp [t9]
        have hgs : GS (upd h' Ls ⟨[.int .i64 (v + b), .int .i64 b], 107, 0, true⟩) 2 1 s (ints acc) acc.length (n + 1) Ls := hg.frame (fun L h1 h2 => by rw [upd_at, if_neg (by omega)]) (Nat.le_refl _)
        refine Sat.ite rfl (fun hd => ?_) (fun hd => ?_)
        · have hd : 0 < v + b := by simpa using hd
          refine Sat.reg (by kernel_rfl) ?_
          have hg2 : GS (upd (upd h' Ls ⟨[.int .i64 (v + b), .int .i64 b], 107, 0, true⟩) n' ⟨[.int .i64 (v + b)], 2, 0, true⟩) 2 1 s (ints acc) acc.length (n + 1) Ls :=
            hgs.frame (fun L h1 h2 => by rw [upd_at, if_neg (by omega)]) (Nat.le_refl _)
          have happ := hg2.append (P := Try.prog) (t := 39) (L := n' + 1) (B := n') (xs := [.int .i64 (v + b)]) (bo := true) Try.underlying39 c2 b2 z2 rfl (by omega) (by omega) (by simp [upd_at]) rfl (by omega) (by omega) (by omega)
          obtain ⟨s2, E, ha, hfr, hal, hal2, hg3⟩ := happ
          have g0 : eff (upd (upd h' Ls ⟨[.int .i64 (v + b), .int .i64 b], 107, 0, true⟩) n' ⟨[.int .i64 (v + b)], 2, 0, true⟩) E n = some ⟨[.int .i64 S, .int .i64 A, .int .i64 j], 25, 0, true⟩ := by
            rw [hfr _ (by omega), upd_at, if_neg (by omega), upd_at, if_neg (by omega), m0]
          have gk : ∀ L, L < n → eff (upd (upd h' Ls ⟨[.int .i64 (v + b), .int .i64 b], 107, 0, true⟩) n' ⟨[.int .i64 (v + b)], 2, 0, true⟩) E L = h L := by
            intro L hL
            rw [hfr _ (by omega), upd_at, if_neg (by omega), upd_at, if_neg (by omega), mk L hL]
          have g1 : eff (upd (upd h' Ls ⟨[.int .i64 (v + b), .int .i64 b], 107, 0, true⟩) n' ⟨[.int .i64 (v + b)], 2, 0, true⟩) E Ls = some ⟨[.int .i64 (v + b), .int .i64 b], 107, 0, true⟩ := by
            rw [hfr _ (.inr (.inr ⟨Nat.le_refl _, by omega⟩)), upd_at, if_neg e1, upd_at, if_pos rfl]
          simp -dsimp [t5, t8, t9, ha, -eff, -allocs]
          refine ⟨g0, g1, by omega, gk, ?_⟩
          simpa [hd, ints] using hg3
        · have hd : ¬ 0 < v + b := by simpa using hd
          refine Sat.skip ?_
          simp -dsimp [t5, t8, t9, e0, m0, hd]
          refine ⟨lh, fun L hL => ?_, hgs.frame (fun _ _ _ => rfl) (by omega)⟩
          rw [if_neg (by omega)]; exact mk L hL
      rintro T2 h2 n2 ⟨u5, u0, u9, u1, ul, uk, s2, u8, ug⟩
      refine Sat.sq ?_
      refine Sat.reg (by kernel_rfl) ?_
      simp -dsimp [u9, u1]
      refine Sat.reg (by kernel_rfl) ?_
      have x0 : ¬ n = n2 := by omega
      simp -dsimp [u5, u8, u0, x0]
      refine ⟨k, ⟨v + b, b, acc ++ (if 0 < v + b then [v + b] else []), ⟨⟨rfl, rfl⟩, by omega, ug.frame (fun L _ _ => by rw [upd_at, if_neg (by omega)]) (Nat.le_refl _)⟩, fun L hL => by rw [if_neg (by omega), if_neg (by omega)]; exact uk L hL, hb, by omega, ?_, ?_⟩, by omega⟩
      · split
        · simp; omega
        · simp; omega
      · simpa [List.append_assoc] using hf
    · have hc : v = 0 ∧ a = 0 := by simp at hc; omega
      have hst : stopL A j k v a = [] := by cases k <;> simp [stopL, hc]
      rw [hst, List.append_nil] at hf
      refine Sat.exit ?_
      simp -dsimp
      refine Sat.sq ?_
      refine Sat.reg (by kernel_rfl) ?_
      simp -dsimp [t8]
      refine Sat.ret (RetQ.ret (n := n') (r := .tuple #[s, .int .i64 0]) (by simp [es]) ⟨by omega, mk, ?_⟩)
      rw [e, ← hf]; exact ⟨_, rfl, (hg.frame (fun _ _ _ => rfl) (by omega)).lo (by omega)⟩

end Go.Proofs.Ytoinimkmoojcoaa
