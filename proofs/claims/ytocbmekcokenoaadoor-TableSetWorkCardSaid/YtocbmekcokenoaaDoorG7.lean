/- Walks, part B6. -/
import Derived.Test.YtocbmekcokenoaaDoorG5
set_option maxRecDepth 100000
set_option maxHeartbeats 4000000
set_option linter.unusedSimpArgs false
set_option linter.unusedVariables false
namespace Go.Proofs.YtocbmekcokenoaaDoor
open Go Go.Dm
attribute [local simp ↓] RunS_nil RunS_op RunS_guard RunT_nil RunT_op RunT_guard opS_call opD_call opS_move opD_move opS_assign opD_assign opS_pick opD_pick opS_nilCheck opD_nilCheck opS_fieldAddr opD_fieldAddr opS_indexAddr opD_indexAddr opS_load opD_load opS_store opD_store opS_alloc opD_alloc opS_box opD_box opS_build opD_build opS_buildSlice opD_buildSlice opS_field opD_field opS_extract opD_extract opS_makeFunc opD_makeFunc opS_slice opD_slice opS_binOp opD_binOp opS_unOp opD_unOp opS_convert opD_convert opS_index opD_index opS_len opD_len opS_append opD_append opS_max opD_max opS_min opD_min opS_makeSlice opD_makeSlice opS_makeInterface opD_makeInterface opS_copy opD_copy opS_data opD_data opS_string opD_string opS_cap opD_cap obind_some obind_none thenH_normal thenH_ret thenH_exit blockA_normal blockA_ret blockA_exit thenA_normal thenA_ret thenA_exit dstAt_mk dstL_zero dstL_succ
attribute [local simp] shB undef wantG_bool wantG_undef findO_some calleeS find putA ev closed3 closed2 closed1 closed0 pickA orE_some orE_none binF binXO binX binB strX unF convF convX convB mxF eqNilA fastBin fastUn fastConv intBin argEnv resultsA resultsL resultA notTuple allocs eff
  loadO storeO allocO boxO sliceO sliceX indexO indexXO indexX indexB lenO lenS capX ifaceO indexAddrA loadA storeA newA isAggT nilCheckA lenA evAll evParts aadd gen upd_at upd_upd Value.cells mxV Pairs apart readsS readB labOf putAt fieldA partA extractA makeFuncA evOpt boundOf sliceA isV0 Nat.add_assoc
attribute [local simp] bu23_z bu23_0_1_2 bu27_z bu27_0_1 bu27_0 bu33_z bu33_0 bu48_0_1 bu61_0_1 bs25_0_z bs25_1_0 bs31_0_z bs31_1_0 bs74_1_0 bs82_3_0_1_2
attribute [local simp ↓] eql23 neq23 eql48 neq48 eql61 neq61 eql24 neq24
attribute [local simp] fa23_0 fa23_1 fa23_2 fa48_0 fa48_1 fa61_0 fa61_1 fa33_0 fa33_1 fa27_0 fa27_1
attribute [local simp] c2 b2 z2 c3 b3 z3 c4 b4 z4 c5 b5 z5 c9 b9 z9 c23 b23 z23 h23 g23 c24 b24 z24 c25 b25 z25 c27 b27 z27 h27 g27 c29 b29 z29 c31 b31 z31 c33 b33 z33 h33 g33 c48 b48 z48 h48 g48 c50 b50 z50 c58 b58 z58 c61 b61 z61 h61 g61 Tryd.underlying2 Tryd.underlying3 Tryd.underlying4 Tryd.underlying5 Tryd.underlying9 Tryd.underlying23 Tryd.underlying24 Tryd.underlying25 Tryd.underlying27 Tryd.underlying29 Tryd.underlying31 Tryd.underlying33 Tryd.underlying48 Tryd.underlying50 Tryd.underlying58 Tryd.underlying61
theorem w_cmpisNaNint64 (a : Int) : Pure Tryd.prog 58 [.int .i64 a] (.bool false) := by
  refine Pure.of_body Tryd.func58 rfl (by kernel_rfl) Tryd.ntmps58 (by rw [Tryd.results58]) (Nat.le_of_ble_eq_true rfl) fun h n => ?_
  refine Sat.sq ?_
  refine Sat.reg (by kernel_rfl) ?_
  simp -dsimp
  refine Sat.sq ?_
  refine Sat.reg (by kernel_rfl) ?_
  simp -dsimp
  exact Sat.ret (PureQ.ret rfl keep_refl (by simp))
def cmpM (a b : Int) : Int := if a < b then -1 else if b < a then 1 else 0
theorem w_cmpCompareint64 (a b : Int) : Pure Tryd.prog 48 [.int .i64 a, .int .i64 b] (.int .i64 (cmpM a b)) := by
  refine Pure.of_body Tryd.func48 rfl (by kernel_rfl) Tryd.ntmps48 (by rw [Tryd.results48]) (Nat.le_of_ble_eq_true rfl) fun h n => ?_
  refine Sat.sq ?_
  refine Sat.reg (by kernel_rfl) ?_
  simp -dsimp
  refine Sat.sq ?_
  refine Sat.reg (by kernel_rfl) ?_
  simp -dsimp
  refine (w_cmpisNaNint64 ..).useH ?_
  simp -dsimp
  refine Sat.sq ?_
  refine Sat.reg (by kernel_rfl) ?_
  simp -dsimp
  refine (w_cmpisNaNint64 ..).useH ?_
  simp -dsimp
  refine Sat.sq ?_
  refine Sat.sq ?_
  refine Sat.reg (by kernel_rfl) ?_
  simp -dsimp
  refine Sat.cond (t := false) (by rfl) ?_
  refine Sat.skip ?_
  simp -dsimp
  refine Sat.sq ?_
  refine Sat.sq ?_
  refine Sat.reg (by kernel_rfl) ?_
  simp -dsimp
  refine Sat.cond (t := false) (by rfl) ?_
  refine Sat.skip ?_
  simp -dsimp
  refine Sat.sq ?_
  refine Sat.sq ?_
  refine Sat.reg (by kernel_rfl) ?_
  simp -dsimp
  refine Sat.ite rfl (fun hc => ?_) (fun hc => ?_)
  · simp at hc
    refine Sat.sq ?_
    refine Sat.reg (by kernel_rfl) ?_
    simp -dsimp
    exact Sat.ret (PureQ.ret rfl keep_refl (by simp [cmpM, hc]))
  · simp at hc
    refine Sat.skip ?_
    simp -dsimp
    refine Sat.sq ?_
    refine Sat.sq ?_
    refine Sat.reg (by kernel_rfl) ?_
    simp -dsimp
    refine Sat.ite rfl (fun hc => ?_) (fun hc => ?_)
    · simp at hc
      refine Sat.sq ?_
      refine Sat.reg (by kernel_rfl) ?_
      simp -dsimp
      exact Sat.ret (PureQ.ret rfl keep_refl (by simp [cmpM, hc]; omega))
    · simp at hc
      refine Sat.skip ?_
      simp -dsimp
      refine Sat.sq ?_
      refine Sat.reg (by kernel_rfl) ?_
      simp -dsimp
      exact Sat.ret (PureQ.ret rfl keep_refl (by simp [cmpM]; omega))
theorem w_tfindC1 (m : Ln) (k : Int) : Pure Tryd.prog 47 [m.v, .int .i64 k] (.int .i64 (cmpM m.n k)) := by
  refine Pure.of_body Tryd.func47 rfl (by kernel_rfl) Tryd.ntmps47 (by rw [Tryd.results47]) (Nat.le_of_ble_eq_true rfl) fun h n => ?_
  refine Sat.sq ?_
  refine Sat.reg (by kernel_rfl) ?_
  simp -dsimp
  refine Sat.sq ?_
  refine Sat.reg (by kernel_rfl) ?_
  simp -dsimp
  refine (w_cmpCompareint64 ..).useH ?_
  simp -dsimp
  exact Sat.ret (PureQ.ret rfl (keep_upd (by omega) keep_refl) (by simp))
/-- Strictly rising numbers. -/
def Rising (ls : List Ln) : Prop := ∀ i j : Nat, i < j → j < ls.length → (ls[i]!).n < (ls[j]!).n
def nAt (ls : List Ln) (q : Nat) : Int := (ls[q]!).n
/-- Where a number belongs. -/
def lb (ls : List Ln) (k : Int) : Nat := ls.findIdx fun e => decide (k ≤ e.n)
def has (ls : List Ln) (k : Int) : Bool := decide (lb ls k < ls.length) && decide ((ls[lb ls k]!).n = k)
theorem lb_le (ls : List Ln) (k : Int) : lb ls k ≤ ls.length := List.findIdx_le_length
theorem lb_eq {ls : List Ln} {k : Int} {i : Nat} (hi : i ≤ ls.length) (h1 : i < ls.length → k ≤ (ls[i]!).n) (h2 : ∀ j, j < i → (ls[j]!).n < k) : lb ls k = i := by
  unfold lb
  rcases Nat.lt_or_ge i ls.length with hlt | hge
  · rw [List.findIdx_eq hlt]
    refine ⟨by simpa [hlt] using h1 hlt, fun j hj => ?_⟩
    have := h2 j hj
    rw [show ls[j]! = ls[j] by simp [show j < ls.length by omega]] at this
    simpa using this
  · have : i = ls.length := by omega
    subst this
    rw [List.findIdx_eq_length]
    intro x hx
    obtain ⟨j, hj, rfl⟩ := List.mem_iff_getElem.1 hx
    have := h2 j hj
    rw [show ls[j]! = ls[j] by simp [hj]] at this
    simpa using this
theorem wrapu_in {x : Int} (h0 : 0 ≤ x) (h1 : x ≤ 9223372036854775807) : IntKind.u64.wrap x = x := by
  simp only [IntKind.wrap, IntKind.min, IntKind.max, IntKind.signed, IntKind.bits]; simp; omega
theorem w_sBinarySearchFuncLength {h : Heap} {s : Value} {ls : List Ln} (hr : RD h 2 s (lnCells ls) ls.length) (few : ls.length ≤ 1000000000000) (hs : Rising ls) (k : Int) (n : Nat) :
    Dm.Spec Tryd.prog 46 [s, .int .i64 k, .func (.func 47) #[] #[]] h n fun r' h' n' => r' = .tuple #[.int .i64 (lb ls k), .bool (has ls k)] ∧ h' = h ∧ n' = n := by
  refine pureAt Tryd.func46 rfl (by kernel_rfl) Tryd.ntmps46 (by rw [Tryd.results46]) (Nat.le_of_ble_eq_true rfl) ?_
  obtain ⟨Ad, cd, rfl⟩ := hr.len
  refine Sat.sq ?_
  refine Sat.reg (by kernel_rfl) ?_
  simp -dsimp
  refine Sat.sq ?_
  refine Sat.reg (by kernel_rfl) ?_
  simp -dsimp
  refine Sat.sq ?_
  refine Sat.reg (by kernel_rfl) ?_
  simp -dsimp
  refine Sat.sq ?_
  refine Sat.block ?_
  refine Sat.loop (ι := Int × Int) (fun ij T h' n' => find T 0 = some (.slice Ad ls.length cd) ∧ find T 1 = some (.int .i64 k) ∧ find T 2 = some (.func (.func 47) #[] #[]) ∧ find T 8 = some (.int .i64 ls.length) ∧ find T 9 = some (.int .i64 ij.1) ∧ find T 10 = some (.int .i64 ij.2) ∧ h' = h ∧ n' = n ∧ 0 ≤ ij.1 ∧ ij.1 ≤ ij.2 ∧ ij.2 ≤ ls.length ∧ (∀ q : Nat, (q : Int) < ij.1 → nAt ls q < k) ∧ ∀ q : Nat, ij.2 ≤ (q : Int) → q < ls.length → k ≤ nAt ls q) (fun ij => (ij.2 - ij.1).toNat) (0, (ls.length : Int)) ?_ ?_
  · refine ⟨rfl, rfl, rfl, rfl, rfl, rfl, rfl, rfl, by simp, by simp, by simp, fun q hq => absurd hq (by simp only; omega), fun q hq hq2 => absurd hq (by simp only; omega)⟩
  · rintro ⟨i, j⟩ T h' n' ⟨t0, t1, t2, t8, t9, t10, rfl, rfl, i0, ij, j1, lo, hi⟩
    simp only at t9 t10 i0 ij j1 lo hi
    refine Sat.sq ?_
    refine Sat.sq ?_
    refine Sat.reg (by kernel_rfl) ?_
    simp -dsimp [t9, t10]
    refine Sat.ite rfl (fun hc => ?_) (fun hc => ?_)
    · have hc : i < j := by simpa using hc
      refine Sat.skip ?_
      simp -dsimp
      refine Sat.block ?_
      refine Sat.sq ?_
      refine Sat.reg (by kernel_rfl) ?_
      simp -dsimp [t9, t10, wrap_in (show -9223372036854775808 ≤ i + j by omega) (show i + j ≤ 9223372036854775807 by omega), wrapu_in (show 0 ≤ i + j by omega) (show i + j ≤ 9223372036854775807 by omega), wrap_in (show -9223372036854775808 ≤ (i + j) / 2 by omega) (show (i + j) / 2 ≤ 9223372036854775807 by omega)]
      have m0 : i ≤ (i + j) / 2 := by omega
      have m1 : (i + j) / 2 < j := by omega
      generalize (i + j) / 2 = q at m0 m1 ⊢
      obtain ⟨B, o, sp, b, hB, ap⟩ := hr.tln (i := q) (by omega) (by omega)
      obtain ⟨qn, rfl⟩ : ∃ qn : Nat, q = qn := ⟨q.toNat, by omega⟩
      simp only [Int.toNat_natCast] at ap
      have W0 : IntKind.i64.wrap (qn : Int) = qn := wrap_in (by omega) (by omega)
      refine Sat.sq ?_
      refine Sat.reg (by kernel_rfl) ?_
      simp -dsimp [t0, t1, t2, W0, -indexAddrA, ap.idx, ↓ap.l, hB]
      refine (w_tfindC1 ..).useH ?_
      simp -dsimp
      refine Sat.ite rfl (fun hf => ?_) (fun hf => ?_)
      · have hlt : (ls[qn]!).n < k := by
          have : cmpM (ls[qn]!).n k < 0 := by simpa using hf
          unfold cmpM at this; split at this
          · assumption
          · split at this <;> omega
        have W : IntKind.i64.wrap ((qn : Int) + 1) = qn + 1 := wrap_in (by omega) (by omega)
        refine Sat.reg (by kernel_rfl) ?_
        simp -dsimp [t0, t1, t2, t8, t10, W, W0]
        refine ⟨qn + 1, j, ⟨rfl, rfl, by omega, by omega, by omega, fun r hr2 => ?_, hi⟩, by omega⟩
        rcases Nat.lt_or_ge r qn with h1 | h1
        · exact Int.lt_trans (hs r qn h1 (by omega)) hlt
        · have : r = qn := by omega
          subst this; exact hlt
      · have hge : k ≤ (ls[qn]!).n := by
          have : ¬ cmpM (ls[qn]!).n k < 0 := by simpa using hf
          unfold cmpM at this; split at this <;> omega
        refine Sat.reg (by kernel_rfl) ?_
        simp -dsimp [t0, t1, t2, t8, t9, t10, W0]
        refine ⟨i, qn, ⟨rfl, rfl, by omega, by omega, by omega, lo, fun r hr2 hr3 => ?_⟩, by omega⟩
        rcases Nat.lt_or_ge qn r with h1 | h1
        · exact Int.le_trans hge (Int.le_of_lt (hs qn r h1 hr3))
        · have : r = qn := by omega
          subst this; exact hge
    · have hc : ¬ i < j := by simpa using hc
      refine Sat.exit ?_
      simp -dsimp
      have hij : i = j := by omega
      subst hij
      obtain ⟨q, rfl⟩ : ∃ q : Nat, i = q := ⟨i.toNat, by omega⟩
      have hlb : lb ls k = q := lb_eq (by omega) (fun h => hi q (by omega) h) (fun r hr2 => lo r (by omega))
      have hhas : has ls k = (decide (q < ls.length) && decide ((ls[q]!).n = k)) := by unfold has; rw [hlb]
      by_cases hq : q < ls.length
      · obtain ⟨B, o, sp, b, hB, ap⟩ := hr.tln (i := (q : Int)) (by omega) (by omega)
        simp only [Int.toNat_natCast] at ap
        have hge : k ≤ (ls[q]!).n := hi q (by omega) hq
        generalize ls[q]! = m at *
        refine Sat.sq ?_
        refine Sat.reg (by kernel_rfl) ?_
        simp -dsimp [t0, t1, t2, t8, t9, hq, -indexAddrA, ap.idx, ↓ap.l, hB]
        refine (w_tfindC1 ..).useH ?_
        simp -dsimp
        have e : (cmpM m.n k == 0) = decide (m.n = k) := by
          unfold cmpM; split
          · exact absurd ‹m.n < k› (by omega)
          · split
            · simp; omega
            · simp; omega
        refine Sat.ret (PureQ.ret rfl keep_refl ?_)
        simp [hhas, hlb, hq, e]
      · refine Sat.sq ?_
        refine Sat.reg (by kernel_rfl) ?_
        simp -dsimp [t0, t1, t2, t8, t9, hq]
        refine Sat.ret (PureQ.ret rfl keep_refl ?_)
        simp [hhas, hlb, hq]
theorem w_tfind {h : Heap} {s : Value} {T : Tb} (hr : RD h 2 s (lnCells T.ls) T.ls.length) (few : T.ls.length ≤ 1000000000000) (hs : Rising T.ls) (k : Int) (n : Nat) :
    Dm.Spec Tryd.prog 32 [T.v s, .int .i64 k] h n fun r' h' n' => r' = .tuple #[.int .i64 (lb T.ls k), .bool (has T.ls k)] ∧ h' = h ∧ n' = n := by
  refine pureAt Tryd.func32 rfl (by kernel_rfl) Tryd.ntmps32 (by rw [Tryd.results32]) (Nat.le_of_ble_eq_true rfl) ?_
  refine Sat.lt fun hlt => ?_
  obtain ⟨Ad, cd, rfl⟩ := hr.len
  refine Sat.sq ?_
  refine Sat.reg (by kernel_rfl) ?_
  simp -dsimp
  generalize hh1 : upd h n _ = h1
  have hr1 : RD h1 2 _ (lnCells T.ls) T.ls.length := hh1 ▸ hr.upd hlt (Nat.le_refl n) _
  have hn : h1 n = some ⟨T.wcells ++ [.slice Ad T.ls.length cd], 33, 0, true⟩ := by rw [← hh1]; simp [upd_at]
  have hk : ∀ L, L < n → h1 L = h L := fun L hL => by rw [← hh1, upd_at, if_neg (by omega)]
  refine Sat.sq ?_
  refine Sat.reg (by kernel_rfl) ?_
  simp -dsimp [hn]
  refine (w_sBinarySearchFuncLength hr1 few hs k _).useH ?_
  simp -dsimp
  exact Sat.ret (PureQ.ret rfl hk (by simp))
/-- The length of a number. -/
def Tb.look (T : Tb) (k : Int) : Option Int := if k = 0 then some 0 else if has T.ls k then some (T.ls[lb T.ls k]!).l else none
def lookV : Option Int → Value
  | some l => .tuple #[.int .i64 l, .int .i64 0]
  | none => .tuple #[.int .i64 0, .int .i64 4]
theorem lookV_closed (o : Option Int) : closed3 (lookV o) = true := by cases o <;> rfl
theorem w_tlength {h : Heap} {s : Value} {T : Tb} (hr : RD h 2 s (lnCells T.ls) T.ls.length) (few : T.ls.length ≤ 1000000000000) (hs : Rising T.ls) (k : Int) (n : Nat) :
    Dm.Spec Tryd.prog 51 [T.v s, .int .i64 k] h n fun r' h' n' => r' = lookV (T.look k) ∧ h' = h ∧ n' = n := by
  refine pureAt Tryd.func51 rfl (by kernel_rfl) Tryd.ntmps51 (by rw [Tryd.results51]) (Nat.le_of_ble_eq_true rfl) ?_
  refine Sat.lt fun hlt => ?_
  obtain ⟨Ad, cd, rfl⟩ := hr.len
  refine Sat.sq ?_
  refine Sat.reg (by kernel_rfl) ?_
  simp -dsimp
  generalize hh1 : upd h n _ = h1
  have hr1 : RD h1 2 _ (lnCells T.ls) T.ls.length := hh1 ▸ hr.upd hlt (Nat.le_refl n) _
  have hn : h1 n = some ⟨T.wcells ++ [.slice Ad T.ls.length cd], 33, 0, true⟩ := by rw [← hh1]; simp [upd_at]
  have hk : ∀ L, L < n → h1 L = h L := fun L hL => by rw [← hh1, upd_at, if_neg (by omega)]
  refine Sat.sq ?_
  refine Sat.sq ?_
  refine Sat.reg (by kernel_rfl) ?_
  simp -dsimp
  refine Sat.ite rfl (fun hc => ?_) (fun hc => ?_)
  · have hc : k = 0 := by simpa using hc
    refine Sat.sq ?_
    refine Sat.reg (by kernel_rfl) ?_
    simp -dsimp
    exact Sat.ret (PureQ.ret (lookV_closed _) hk (by simp [Tb.look, hc, lookV]))
  · have hc : ¬ k = 0 := by simpa using hc
    refine Sat.skip ?_
    simp -dsimp
    refine Sat.sq ?_
    refine Sat.reg (by kernel_rfl) ?_
    simp -dsimp [hn]
    refine (w_tfind hr1 few hs k _).useH ?_
    simp -dsimp
    refine Sat.sq ?_
    refine Sat.sq ?_
    refine Sat.reg (by kernel_rfl) ?_
    simp -dsimp
    cases hh : has T.ls k
    · refine Sat.cond (t := true) (by rfl) ?_
      refine Sat.sq ?_
      refine Sat.reg (by kernel_rfl) ?_
      simp -dsimp
      exact Sat.ret (PureQ.ret (lookV_closed _) hk (by simp [Tb.look, hc, hh, lookV]))
    · have hl : lb T.ls k < T.ls.length := by unfold has at hh; simp only [Bool.and_eq_true, decide_eq_true_eq] at hh; exact hh.1
      obtain ⟨B, o, sp, b, hB, ap⟩ := hr1.tln (i := (lb T.ls k : Int)) (by omega) (by omega)
      have hlk : T.look k = some (T.ls[lb T.ls k]!).l := by simp [Tb.look, hc, hh]
      simp only [Int.toNat_natCast] at ap
      generalize T.ls[lb T.ls k]! = m at ap hlk
      refine Sat.cond (t := false) (by rfl) ?_
      refine Sat.skip ?_
      simp -dsimp
      refine Sat.sq ?_
      refine Sat.reg (by kernel_rfl) ?_
      simp -dsimp [hn, -indexAddrA, ap.idx, ↓ap.ll, hB]
      exact Sat.ret (PureQ.ret (lookV_closed _) hk (by simp [hlk, lookV]))

end Go.Proofs.YtocbmekcokenoaaDoor
/- Walks, part B7. -/
set_option maxRecDepth 100000
set_option maxHeartbeats 4000000
set_option linter.unusedSimpArgs false
set_option linter.unusedVariables false
namespace Go.Proofs.YtocbmekcokenoaaDoor
open Go Go.Dm
attribute [local simp ↓] RunS_nil RunS_op RunS_guard RunT_nil RunT_op RunT_guard opS_call opD_call opS_move opD_move opS_assign opD_assign opS_pick opD_pick opS_nilCheck opD_nilCheck opS_fieldAddr opD_fieldAddr opS_indexAddr opD_indexAddr opS_load opD_load opS_store opD_store opS_alloc opD_alloc opS_box opD_box opS_build opD_build opS_buildSlice opD_buildSlice opS_field opD_field opS_extract opD_extract opS_makeFunc opD_makeFunc opS_slice opD_slice opS_binOp opD_binOp opS_unOp opD_unOp opS_convert opD_convert opS_index opD_index opS_len opD_len opS_append opD_append opS_max opD_max opS_min opD_min opS_makeSlice opD_makeSlice opS_makeInterface opD_makeInterface opS_copy opD_copy opS_data opD_data opS_string opD_string opS_cap opD_cap obind_some obind_none thenH_normal thenH_ret thenH_exit blockA_normal blockA_ret blockA_exit thenA_normal thenA_ret thenA_exit dstAt_mk dstL_zero dstL_succ
attribute [local simp] shB undef wantG_bool wantG_undef findO_some calleeS find putA ev closed3 closed2 closed1 closed0 pickA orE_some orE_none binF binXO binX binB strX unF convF convX convB mxF eqNilA fastBin fastUn fastConv intBin argEnv resultsA resultsL resultA notTuple allocs eff
  loadO storeO allocO boxO sliceO sliceX indexO indexXO indexX indexB lenO lenS capX ifaceO indexAddrA loadA storeA newA isAggT nilCheckA lenA evAll evParts aadd gen upd_at upd_upd Value.cells mxV Pairs apart readsS readB labOf putAt fieldA partA extractA makeFuncA evOpt boundOf sliceA isV0 Nat.add_assoc
attribute [local simp] bu23_z bu23_0_1_2 bu27_z bu27_0_1 bu27_0 bu33_z bu33_0 bu48_0_1 bu61_0_1 bs25_0_z bs25_1_0 bs31_0_z bs31_1_0 bs74_1_0 bs82_3_0_1_2
attribute [local simp ↓] eql23 neq23 eql48 neq48 eql61 neq61 eql24 neq24
attribute [local simp] fa23_0 fa23_1 fa23_2 fa48_0 fa48_1 fa61_0 fa61_1 fa33_0 fa33_1 fa27_0 fa27_1
attribute [local simp] c2 b2 z2 c3 b3 z3 c4 b4 z4 c5 b5 z5 c9 b9 z9 c23 b23 z23 h23 g23 c24 b24 z24 c25 b25 z25 c27 b27 z27 h27 g27 c29 b29 z29 c31 b31 z31 c33 b33 z33 h33 g33 c48 b48 z48 h48 g48 c50 b50 z50 c58 b58 z58 c61 b61 z61 h61 g61 Tryd.underlying2 Tryd.underlying3 Tryd.underlying4 Tryd.underlying5 Tryd.underlying9 Tryd.underlying23 Tryd.underlying24 Tryd.underlying25 Tryd.underlying27 Tryd.underlying29 Tryd.underlying31 Tryd.underlying33 Tryd.underlying48 Tryd.underlying50 Tryd.underlying58 Tryd.underlying61
theorem anyFrom_false {f : Int → Bool} : ∀ (d : Nat) (i : Int), anyFrom f d i = false → ∀ j, i ≤ j → j < i + d → f j = false
  | 0, i, _, j, h1, h2 => by omega
  | d + 1, i, h, j, h1, h2 => by
    simp only [anyFrom, Bool.or_eq_false_iff] at h
    by_cases he : j = i
    · rw [he]; exact h.1
    · exact anyFrom_false d (i + 1) h.2 j (by omega) (by omega)
structure Tb.Good (T : Tb) : Prop where
  rise : Rising T.ls
  near : ∀ p ∈ T.work, p.far = false
  ok : ∀ i, i < T.ls.length → (T.ls[i]!).ok = true
theorem Tb.good {T : Tb} (h : T.bad = false) : T.Good := by
  simp only [Tb.bad, Bool.or_eq_false_iff] at h
  have hb : ∀ i : Nat, i < T.ls.length → (T.ls[i]!).ok = true ∧ (0 < i → (T.ls[i - 1]!).n < (T.ls[i]!).n) := by
    intro i hi
    have := anyFrom_false _ _ h.2 i (by omega) (by omega)
    unfold badL at this
    simp only [Bool.or_eq_false_iff, Bool.not_eq_false', Bool.and_eq_false_iff, decide_eq_false_iff_not, Int.toNat_natCast] at this
    refine ⟨this.1, fun h0 => ?_⟩
    have h2 := this.2
    rw [show ((i : Int) - 1).toNat = i - 1 by omega] at h2
    omega
  refine ⟨?_, fun p hp => ?_, fun i hi => (hb i hi).1⟩
  · intro i j hij hj
    induction j with
    | zero => omega
    | succ j ih =>
      have h1 := (hb (j + 1) hj).2 (by omega)
      simp only [Nat.add_sub_cancel] at h1
      by_cases he : i = j
      · rw [he]; exact h1
      · exact Int.lt_trans (ih (by omega) (by omega)) h1
  · have := List.any_eq_false.1 h.1 p hp
    simpa using this
abbrev P0 : P3 := ⟨0, 0, 0⟩
abbrev posV (r : P3 × Int) : Value := .tuple #[r.1.v, .int .i64 r.2]
/-- What is added to a work position. -/
def Tb.off (T : Tb) (c k : Int) : P3 × Int :=
  if T.bad then (P0, 1) else match slotM c, T.look k with
    | some i, some l => (⟨(T.work[i]!).x, (T.work[i]!).y, IntKind.i64.wrap ((T.work[i]!).z + l)⟩, 0)
    | _, _ => (P0, 4)
theorem slot_lt {c : Int} {i : Nat} (h : slotM c = some i) : i < 6 := by
  unfold slotM at h; split at h
  · rename_i hc; cases h; exact (slot_div hc.1 hc.2.1 hc.2.2).2.2
  · cases h
theorem work_pos {T : Tb} {s : Value} {h1 : Heap} {n : Nat} {e : TypeId} (hn : h1 n = some ⟨T.wcells ++ [s], e, 0, true⟩) {i : Nat} (hi : i < 6) : loadA Tryd.prog h1 23 ⟨n, i * 3, none⟩ = some (T.work[i]!).v := by
  unfold loadA
  simp only [Tryd.underlying23, hn, gen, isAggT, c23, if_true]
  have := work_at T s (i := (i : Int)) (by omega) (by omega)
  simp only [Int.toNat_natCast] at this
  rw [this]
  rw [if_pos (show 0 < 3 ∧ i * 3 + 3 ≤ _ from ⟨by omega, by simp; omega⟩)]
  exact if_pos rfl
theorem w_toffset {h : Heap} {s : Value} {T : Tb} (hr : RD h 2 s (lnCells T.ls) T.ls.length) (few : T.ls.length ≤ 1000000000000) (c k : Int) (n : Nat) :
    Dm.Spec Tryd.prog 34 [T.v s, .int .i64 c, .int .i64 k] h n fun r' h' n' => r' = posV (T.off c k) ∧ h' = h ∧ n' = n := by
  refine pureAt Tryd.func34 rfl (by kernel_rfl) Tryd.ntmps34 (by rw [Tryd.results34]) (Nat.le_of_ble_eq_true rfl) ?_
  refine Sat.lt fun hlt => ?_
  obtain ⟨Ad, cd, rfl⟩ := hr.len
  refine Sat.sq ?_
  refine Sat.reg (by kernel_rfl) ?_
  simp -dsimp
  generalize hh1 : upd (upd h n _) (n + 1) _ = h1
  have hn : h1 n = some ⟨T.wcells ++ [.slice Ad T.ls.length cd], 33, 0, true⟩ := by rw [← hh1]; simp [upd_at]
  have hn1 : h1 (n + 1) = some ⟨[.int .i64 0, .int .i64 0, .int .i64 0], 23, 0, true⟩ := by rw [← hh1]; simp [upd_at]
  have hk : ∀ L, L < n → h1 L = h L := fun L hL => by rw [← hh1, upd_at, upd_at, if_neg (by omega), if_neg (by omega)]
  have hr1 : RD h1 2 _ (lnCells T.ls) T.ls.length := hr.mono fun L b hb => by rw [hk L (hlt _ _ hb)]; exact hb
  refine Sat.sq ?_
  refine Sat.sq ?_
  refine Sat.reg (by kernel_rfl) ?_
  simp -dsimp [hn]
  refine (w_tValid hr1 few _).useH ?_
  simp -dsimp
  refine Sat.sq ?_
  refine Sat.reg (by kernel_rfl) ?_
  simp -dsimp
  cases hb : T.bad
  · have e : T.code = 0 := by simp [Tb.code, hb]
    rw [e]
    refine Sat.cond (t := false) (by rfl) ?_
    have hg := Tb.good hb
    refine Sat.skip ?_
    simp -dsimp
    refine Sat.sq ?_
    refine Sat.reg (by kernel_rfl) ?_
    simp -dsimp
    refine (w_tslot ..).useH ?_
    cases hs : slotM c with
    | none =>
      simp -dsimp
      refine Sat.sq ?_
      refine Sat.reg (by kernel_rfl) ?_
      simp -dsimp [hn]
      refine (w_tlength hr1 few hg.rise k _).useH ?_
      cases hl : T.look k <;> simp -dsimp only [lookV]
      all_goals
        simp -dsimp
        refine Sat.sq ?_
        refine Sat.sq ?_
        refine Sat.reg (by kernel_rfl) ?_
        simp -dsimp
        refine Sat.cond (t := true) (by rfl) ?_
        refine Sat.sq ?_
        refine Sat.reg (by kernel_rfl) ?_
        simp -dsimp [hn1]
        refine Sat.ret (PureQ.ret rfl (keep_upd (by omega) hk) (by simp [Tb.off, hb, hs, hl]))
    | some i =>
      simp -dsimp
      refine Sat.sq ?_
      refine Sat.reg (by kernel_rfl) ?_
      simp -dsimp [hn]
      refine (w_tlength hr1 few hg.rise k _).useH ?_
      cases hl : T.look k <;> simp -dsimp only [lookV]
      · simp -dsimp
        refine Sat.sq ?_
        refine Sat.sq ?_
        refine Sat.reg (by kernel_rfl) ?_
        simp -dsimp
        refine Sat.cond (t := true) (by rfl) ?_
        refine Sat.sq ?_
        refine Sat.reg (by kernel_rfl) ?_
        simp -dsimp [hn1]
        refine Sat.ret (PureQ.ret rfl (keep_upd (by omega) hk) (by simp [Tb.off, hb, hs, hl]))
      · rename_i l
        have hw := work_pos hn (slot_lt hs)
        have hi := slot_lt hs
        have ho : T.off c k = (⟨(T.work[i]!).x, (T.work[i]!).y, IntKind.i64.wrap ((T.work[i]!).z + l)⟩, 0) := by simp [Tb.off, hb, hs, hl]
        generalize T.work[i]! = p at hw ho
        simp -dsimp
        refine Sat.sq ?_
        refine Sat.sq ?_
        refine Sat.reg (by kernel_rfl) ?_
        simp -dsimp
        refine Sat.cond (t := false) (by rfl) ?_
        refine Sat.skip ?_
        simp -dsimp
        refine Sat.sq ?_
        refine Sat.reg (by kernel_rfl) ?_
        simp -dsimp [show (i : Int) < 6 by omega, ↓hw]
        refine Sat.sq ?_
        refine Sat.reg (by kernel_rfl) ?_
        simp -dsimp
        refine Sat.sq ?_
        refine Sat.reg (by kernel_rfl) ?_
        simp -dsimp [hn1]
        refine Sat.ret (PureQ.ret rfl (keep_upd (by omega) (keep_upd (by omega) hk)) (by simp [ho]))
  · have e : T.code = 1 := by simp [Tb.code, hb]
    rw [e]
    refine Sat.cond (t := true) (by rfl) ?_
    refine Sat.sq ?_
    refine Sat.reg (by kernel_rfl) ?_
    simp -dsimp [hn1]
    refine Sat.ret (PureQ.ret rfl (keep_upd (by omega) hk) (by simp [Tb.off, hb]))
abbrev mvq (p b : P3) (sg : Int) : P3 := ⟨IntKind.i64.wrap (p.x + IntKind.i64.wrap (sg * b.x)), IntKind.i64.wrap (p.y + IntKind.i64.wrap (sg * b.y)), IntKind.i64.wrap (p.z + IntKind.i64.wrap (sg * b.z))⟩
/-- A position moved. -/
def mvM (p b : P3) (sg : Int) : P3 × Int := if p.far then (P0, 11) else if (mvq p b sg).far then (P0, 11) else (mvq p b sg, 0)
theorem w_tmoved (p b : P3) (sg : Int) : Pure Tryd.prog 35 [p.v, b.v, .int .i64 sg] (posV (mvM p b sg)) := by
  refine Pure.of_body Tryd.func35 rfl (by kernel_rfl) Tryd.ntmps35 (by rw [Tryd.results35]) (Nat.le_of_ble_eq_true rfl) fun h n => ?_
  refine Sat.sq ?_
  refine Sat.reg (by kernel_rfl) ?_
  simp -dsimp
  refine Sat.sq ?_
  refine Sat.sq ?_
  refine Sat.reg (by kernel_rfl) ?_
  simp -dsimp
  refine (w_tfar ..).useH ?_
  simp -dsimp
  cases hf : p.far
  · refine Sat.cond (t := false) (by rfl) ?_
    refine Sat.skip ?_
    simp -dsimp
    refine Sat.sq ?_
    refine Sat.reg (by kernel_rfl) ?_
    simp -dsimp
    refine Sat.sq ?_
    refine Sat.sq ?_
    refine Sat.reg (by kernel_rfl) ?_
    simp -dsimp
    refine (w_tfar (mvq p b sg)).useH ?_
    simp -dsimp
    cases hf2 : (mvq p b sg).far
    · refine Sat.cond (t := false) (by rfl) ?_
      refine Sat.skip ?_
      simp -dsimp
      refine Sat.sq ?_
      refine Sat.reg (by kernel_rfl) ?_
      simp -dsimp
      refine Sat.ret (PureQ.ret rfl (by repeat (first | exact keep_refl | assumption | refine keep_upd (by omega) ?_)) (by simp [mvM, hf, hf2]))
    · refine Sat.cond (t := true) (by rfl) ?_
      refine Sat.sq ?_
      refine Sat.reg (by kernel_rfl) ?_
      simp -dsimp
      refine Sat.ret (PureQ.ret rfl (by repeat (first | exact keep_refl | assumption | refine keep_upd (by omega) ?_)) (by simp [mvM, hf, hf2]))
  · refine Sat.cond (t := true) (by rfl) ?_
    refine Sat.sq ?_
    refine Sat.reg (by kernel_rfl) ?_
    simp -dsimp
    refine Sat.ret (PureQ.ret rfl (by repeat (first | exact keep_refl | assumption | refine keep_upd (by omega) ?_)) (by simp [mvM, hf]))
/-- A position moved by what a table says. -/
def Tb.go (T : Tb) (c k : Int) (p : P3) (sg : Int) : P3 × Int := if (T.off c k).2 = 0 then mvM p (T.off c k).1 sg else (P0, (T.off c k).2)
theorem w_tMachine {h : Heap} {s : Value} {T : Tb} (hr : RD h 2 s (lnCells T.ls) T.ls.length) (few : T.ls.length ≤ 1000000000000) (c k : Int) (p : P3) (n : Nat) :
    Dm.Spec Tryd.prog 19 [T.v s, .int .i64 c, .int .i64 k, p.v] h n fun r' h' n' => r' = posV (T.go c k p 1) ∧ h' = h ∧ n' = n := by
  refine pureAt Tryd.func19 rfl (by kernel_rfl) Tryd.ntmps19 (by rw [Tryd.results19]) (Nat.le_of_ble_eq_true rfl) ?_
  refine Sat.lt fun hlt => ?_
  obtain ⟨Ad, cd, rfl⟩ := hr.len
  refine Sat.sq ?_
  refine Sat.reg (by kernel_rfl) ?_
  simp -dsimp
  generalize hh1 : upd (upd (upd h n _) (n + 1) _) (n + 2) _ = h1
  have hn : h1 n = some ⟨T.wcells ++ [.slice Ad T.ls.length cd], 33, 0, true⟩ := by rw [← hh1]; simp [upd_at]
  have hn1 : h1 (n + 1) = some ⟨p.cells, 23, 0, true⟩ := by rw [← hh1]; simp [upd_at]
  have hn2 : h1 (n + 2) = some ⟨[.int .i64 0, .int .i64 0, .int .i64 0], 23, 0, true⟩ := by rw [← hh1]; simp [upd_at]
  have hk : ∀ L, L < n → h1 L = h L := fun L hL => by rw [← hh1, upd_at, upd_at, upd_at, if_neg (by omega), if_neg (by omega), if_neg (by omega)]
  have hr1 : RD h1 2 _ (lnCells T.ls) T.ls.length := hr.mono fun L b hb => by rw [hk L (hlt _ _ hb)]; exact hb
  refine Sat.sq ?_
  refine Sat.reg (by kernel_rfl) ?_
  simp -dsimp [hn]
  refine (w_toffset hr1 few c k _).useH ?_
  have hgo : T.go c k p 1 = if (T.off c k).2 = 0 then mvM p (T.off c k).1 1 else (P0, (T.off c k).2) := rfl
  generalize T.off c k = be at hgo ⊢
  obtain ⟨b, e⟩ := be
  dsimp only at hgo
  simp -dsimp
  refine Sat.sq ?_
  refine Sat.sq ?_
  refine Sat.reg (by kernel_rfl) ?_
  simp -dsimp
  refine Sat.ite rfl (fun hc => ?_) (fun hc => ?_)
  · have hc : ¬ e = 0 := by simpa using hc
    rw [if_neg hc] at hgo
    refine Sat.sq ?_
    refine Sat.reg (by kernel_rfl) ?_
    simp -dsimp [hn2]
    exact Sat.ret (PureQ.ret rfl (by repeat (first | exact keep_refl | assumption | refine keep_upd (by omega) ?_)) (by simp [hgo]))
  · have hc : e = 0 := by simpa using hc
    rw [if_pos hc] at hgo
    refine Sat.skip ?_
    simp -dsimp
    refine Sat.sq ?_
    refine Sat.reg (by kernel_rfl) ?_
    simp -dsimp [hn1]
    refine (w_tmoved p b 1).useH ?_
    simp -dsimp [hn2]
    exact Sat.ret (PureQ.ret rfl (by repeat (first | exact keep_refl | assumption | refine keep_upd (by omega) ?_)) (by simp [hgo]))
theorem w_tWork {h : Heap} {s : Value} {T : Tb} (hr : RD h 2 s (lnCells T.ls) T.ls.length) (few : T.ls.length ≤ 1000000000000) (c k : Int) (p : P3) (n : Nat) :
    Dm.Spec Tryd.prog 21 [T.v s, .int .i64 c, .int .i64 k, p.v] h n fun r' h' n' => r' = posV (T.go c k p (-1)) ∧ h' = h ∧ n' = n := by
  refine pureAt Tryd.func21 rfl (by kernel_rfl) Tryd.ntmps21 (by rw [Tryd.results21]) (Nat.le_of_ble_eq_true rfl) ?_
  refine Sat.lt fun hlt => ?_
  obtain ⟨Ad, cd, rfl⟩ := hr.len
  refine Sat.sq ?_
  refine Sat.reg (by kernel_rfl) ?_
  simp -dsimp
  generalize hh1 : upd (upd (upd h n _) (n + 1) _) (n + 2) _ = h1
  have hn : h1 n = some ⟨T.wcells ++ [.slice Ad T.ls.length cd], 33, 0, true⟩ := by rw [← hh1]; simp [upd_at]
  have hn1 : h1 (n + 1) = some ⟨p.cells, 23, 0, true⟩ := by rw [← hh1]; simp [upd_at]
  have hn2 : h1 (n + 2) = some ⟨[.int .i64 0, .int .i64 0, .int .i64 0], 23, 0, true⟩ := by rw [← hh1]; simp [upd_at]
  have hk : ∀ L, L < n → h1 L = h L := fun L hL => by rw [← hh1, upd_at, upd_at, upd_at, if_neg (by omega), if_neg (by omega), if_neg (by omega)]
  have hr1 : RD h1 2 _ (lnCells T.ls) T.ls.length := hr.mono fun L b hb => by rw [hk L (hlt _ _ hb)]; exact hb
  refine Sat.sq ?_
  refine Sat.reg (by kernel_rfl) ?_
  simp -dsimp [hn]
  refine (w_toffset hr1 few c k _).useH ?_
  have hgo : T.go c k p (-1) = if (T.off c k).2 = 0 then mvM p (T.off c k).1 (-1) else (P0, (T.off c k).2) := rfl
  generalize T.off c k = be at hgo ⊢
  obtain ⟨b, e⟩ := be
  dsimp only at hgo
  simp -dsimp
  refine Sat.sq ?_
  refine Sat.sq ?_
  refine Sat.reg (by kernel_rfl) ?_
  simp -dsimp
  refine Sat.ite rfl (fun hc => ?_) (fun hc => ?_)
  · have hc : ¬ e = 0 := by simpa using hc
    rw [if_neg hc] at hgo
    refine Sat.sq ?_
    refine Sat.reg (by kernel_rfl) ?_
    simp -dsimp [hn2]
    exact Sat.ret (PureQ.ret rfl (by repeat (first | exact keep_refl | assumption | refine keep_upd (by omega) ?_)) (by simp [hgo]))
  · have hc : e = 0 := by simpa using hc
    rw [if_pos hc] at hgo
    refine Sat.skip ?_
    simp -dsimp
    refine Sat.sq ?_
    refine Sat.reg (by kernel_rfl) ?_
    simp -dsimp [hn1]
    refine (w_tmoved p b (-1)).useH ?_
    simp -dsimp [hn2]
    exact Sat.ret (PureQ.ret rfl (by repeat (first | exact keep_refl | assumption | refine keep_upd (by omega) ?_)) (by simp [hgo]))

end Go.Proofs.YtocbmekcokenoaaDoor
/- Walks, part B8. -/
set_option maxRecDepth 100000
set_option maxHeartbeats 4000000
set_option linter.unusedSimpArgs false
set_option linter.unusedVariables false
namespace Go.Proofs.YtocbmekcokenoaaDoor
open Go Go.Dm
attribute [local simp ↓] RunS_nil RunS_op RunS_guard RunT_nil RunT_op RunT_guard opS_call opD_call opS_move opD_move opS_assign opD_assign opS_pick opD_pick opS_nilCheck opD_nilCheck opS_fieldAddr opD_fieldAddr opS_indexAddr opD_indexAddr opS_load opD_load opS_store opD_store opS_alloc opD_alloc opS_box opD_box opS_build opD_build opS_buildSlice opD_buildSlice opS_field opD_field opS_extract opD_extract opS_makeFunc opD_makeFunc opS_slice opD_slice opS_binOp opD_binOp opS_unOp opD_unOp opS_convert opD_convert opS_index opD_index opS_len opD_len opS_append opD_append opS_max opD_max opS_min opD_min opS_makeSlice opD_makeSlice opS_makeInterface opD_makeInterface opS_copy opD_copy opS_data opD_data opS_string opD_string opS_cap opD_cap obind_some obind_none thenH_normal thenH_ret thenH_exit blockA_normal blockA_ret blockA_exit thenA_normal thenA_ret thenA_exit dstAt_mk dstL_zero dstL_succ
attribute [local simp] shB undef wantG_bool wantG_undef findO_some calleeS find putA ev closed3 closed2 closed1 closed0 pickA orE_some orE_none binF binXO binX binB strX unF convF convX convB mxF eqNilA fastBin fastUn fastConv intBin argEnv resultsA resultsL resultA notTuple allocs eff
  loadO storeO allocO boxO sliceO sliceX indexO indexXO indexX indexB lenO lenS capX ifaceO indexAddrA loadA storeA newA isAggT nilCheckA lenA evAll evParts aadd gen upd_at upd_upd Value.cells mxV Pairs apart readsS readB labOf putAt fieldA partA extractA makeFuncA evOpt boundOf sliceA isV0 Nat.add_assoc
attribute [local simp] bu23_z bu23_0_1_2 bu27_z bu27_0_1 bu27_0 bu33_z bu33_0 bu48_0_1 bu61_0_1 bs25_0_z bs25_1_0 bs31_0_z bs31_1_0 bs74_1_0 bs82_3_0_1_2
attribute [local simp ↓] eql23 neq23 eql48 neq48 eql61 neq61 eql24 neq24
attribute [local simp] fa23_0 fa23_1 fa23_2 fa48_0 fa48_1 fa61_0 fa61_1 fa33_0 fa33_1 fa27_0 fa27_1
attribute [local simp] c2 b2 z2 c3 b3 z3 c4 b4 z4 c5 b5 z5 c9 b9 z9 c23 b23 z23 h23 g23 c24 b24 z24 c25 b25 z25 c27 b27 z27 h27 g27 c29 b29 z29 c31 b31 z31 c33 b33 z33 h33 g33 c48 b48 z48 h48 g48 c50 b50 z50 c58 b58 z58 c61 b61 z61 h61 g61 Tryd.underlying2 Tryd.underlying3 Tryd.underlying4 Tryd.underlying5 Tryd.underlying9 Tryd.underlying23 Tryd.underlying24 Tryd.underlying25 Tryd.underlying27 Tryd.underlying29 Tryd.underlying31 Tryd.underlying33 Tryd.underlying48 Tryd.underlying50 Tryd.underlying58 Tryd.underlying61
abbrev u_rshift_14 : List (Nat × Nat) := []
theorem w_rshift {h : Heap} {s : Value} {T : Tb} (hr : RD h 2 s (lnCells T.ls) T.ls.length) (few : T.ls.length ≤ 1000000000000) (hwk : ∀ p ∈ T.work, p.Fit) (c k : Int) (n : Nat) :
    Dm.Spec Tryd.prog 52 [T.v s, .int .i64 c, .int .i64 k] h n fun r' h' n' => r' = posV (T.off c k) ∧ h' = h ∧ n' = n := by
  refine pureAt Tryd.func52 rfl (by kernel_rfl) Tryd.ntmps52 (by rw [Tryd.results52]) (Nat.le_of_ble_eq_true rfl) ?_
  refine Sat.lt fun hlt => ?_
  obtain ⟨Ad, cd, rfl⟩ := hr.len
  refine Sat.sq ?_
  refine Sat.reg (by kernel_rfl) ?_
  simp -dsimp
  generalize hh1 : upd (upd h n _) (n + 1) _ = h1
  have hn : h1 n = some ⟨T.wcells ++ [.slice Ad T.ls.length cd], 27, 0, true⟩ := by rw [← hh1]; simp [upd_at]
  have hn1 : h1 (n + 1) = some ⟨[.int .i64 0, .int .i64 0, .int .i64 0], 23, 0, true⟩ := by rw [← hh1]; simp [upd_at]
  have hk : ∀ L, L < n → h1 L = h L := fun L hL => by rw [← hh1, upd_at, upd_at, if_neg (by omega), if_neg (by omega)]
  have hr1 : RD h1 2 _ (lnCells T.ls) T.ls.length := hr.mono fun L b hb => by rw [hk L (hlt _ _ hb)]; exact hb
  refine Sat.sq ?_
  refine Sat.sq ?_
  refine Sat.reg (by kernel_rfl) ?_
  simp -dsimp [hn]
  refine (w_rValid hr1 few _).useH ?_
  simp -dsimp
  refine Sat.sq ?_
  refine Sat.reg (by kernel_rfl) ?_
  simp -dsimp
  cases hb : T.bad
  · have e : T.code = 0 := by simp [Tb.code, hb]
    rw [e]
    refine Sat.cond (t := false) (by rfl) ?_
    have hg := Tb.good hb
    refine Sat.skip ?_
    simp -dsimp
    refine Sat.sq ?_
    refine Sat.reg (by kernel_rfl) ?_
    simp -dsimp
    refine (w_rindex ..).useH ?_
    cases hs : slotM c with
    | none =>
      simp -dsimp
      refine Sat.sq ?_
      refine Sat.sq ?_
      refine Sat.reg (by kernel_rfl) ?_
      simp -dsimp
      refine Sat.cond (t := true) (by rfl) ?_
      refine Sat.sq ?_
      refine Sat.reg (by kernel_rfl) ?_
      simp -dsimp [hn1]
      exact Sat.ret (PureQ.ret rfl (by repeat (first | exact keep_refl | assumption | refine keep_upd (by omega) ?_)) (by simp [Tb.off, hb, hs]))
    | some i =>
      simp -dsimp
      refine Sat.sq ?_
      refine Sat.sq ?_
      refine Sat.reg (by kernel_rfl) ?_
      simp -dsimp
      refine Sat.ite rfl (fun hc => absurd hc (by simp)) (fun hc => ?_)
      have hi := slot_lt hs
      have hw := work_pos hn hi
      have hwf : (T.work[i]!).Fit := hwk _ (by
        have := get_lt (l := T.work) (i := (i : Int)) (by omega) (by have : T.work.length = 6 := rfl; omega)
        simpa only [Int.toNat_natCast] using this)
      have ho : T.off c k = match T.look k with | some l => (⟨(T.work[i]!).x, (T.work[i]!).y, IntKind.i64.wrap ((T.work[i]!).z + l)⟩, 0) | none => (P0, 4) := by
        simp only [Tb.off, hb, hs, Bool.false_eq_true, if_false]
        cases T.look k <;> rfl
      generalize T.work[i]! = p at hw ho hwf
      refine Sat.skip ?_
      simp -dsimp
      refine Sat.sq ?_
      refine Sat.reg (by kernel_rfl) ?_
      simp -dsimp [show (i : Int) < 6 by omega, ↓hw]
      refine Sat.sq ?_
      refine Sat.sq ?_
      refine Sat.reg (by kernel_rfl) ?_
      simp -dsimp
      refine Sat.ite rfl (fun hc => ?_) (fun hc => ?_)
      · have hc : k = 0 := by simpa using hc
        have hl : T.look k = some 0 := by simp [Tb.look, hc]
        rw [hl] at ho
        have W : IntKind.i64.wrap (p.z + 0) = p.z := by rw [Int.add_zero]; exact wrap_in hwf.2.2.1 hwf.2.2.2
        refine Sat.sq ?_
        refine Sat.reg (by kernel_rfl) ?_
        simp -dsimp [hn1]
        have ho2 : T.off c k = (p, 0) := by rw [ho]; simp only [W]
        exact Sat.ret (PureQ.ret rfl (by repeat (first | exact keep_refl | assumption | refine keep_upd (by omega) ?_)) (by simp [ho2]))
      · have hc : ¬ k = 0 := by simpa using hc
        generalize hh2 : upd h1 (n + 2) _ = h2
        have hk2 : ∀ L, L < n + 2 → h2 L = h1 L := fun L hL => by rw [← hh2, upd_at, if_neg (by omega)]
        have hp2 : h2 (n + 2) = some ⟨p.cells, 23, 0, true⟩ := by rw [← hh2]; simp [upd_at]
        have hn2 : h2 n = some ⟨T.wcells ++ [.slice Ad T.ls.length cd], 27, 0, true⟩ := by rw [hk2 _ (by omega)]; exact hn
        have hn12 : h2 (n + 1) = some ⟨[.int .i64 0, .int .i64 0, .int .i64 0], 23, 0, true⟩ := by rw [hk2 _ (by omega)]; exact hn1
        have hkk : ∀ L, L < n → h2 L = h L := fun L hL => by rw [hk2 _ (by omega)]; exact hk L hL
        have hr2 : RD h2 2 _ (lnCells T.ls) T.ls.length := hr.mono fun L b hb => by rw [hkk L (hlt _ _ hb)]; exact hb
        refine Sat.skip ?_
        simp -dsimp
        refine Sat.sq ?_
        refine Sat.sq ?_
        refine Sat.reg (by kernel_rfl) ?_
        simp -dsimp
        refine Sat.block ?_
        refine Sat.loop (ι := Int) (fun i T' h' n' => find T' 2 = some (.int .i64 k) ∧ find T' 3 = some (.pointer (some ⟨n, 0, none⟩)) ∧ find T' 6 = some (.pointer (some ⟨n + 1, 0, none⟩)) ∧ find T' 10 = some (.pointer (some ⟨n + 2, 0, none⟩)) ∧ find T' 11 = some (.int .i64 i) ∧ h2 = h' ∧ n + 3 = n' ∧ 0 ≤ i ∧ i ≤ T.ls.length ∧ ∀ q : Nat, (q : Int) < i → nAt T.ls q ≠ k) (fun i => (T.ls.length - i).toNat) 0 ?_ ?_
        · exact ⟨rfl, rfl, rfl, rfl, rfl, rfl, rfl, by omega, by omega, fun q hq => absurd hq (by omega)⟩
        · rintro i T' h' n' ⟨t2, t3, t6, t10, t11, rfl, rfl, i0, i1, lo⟩
          refine Sat.sq ?_
          refine Sat.sq ?_
          refine Sat.reg (by kernel_rfl) ?_
          simp -dsimp [t3, t11, hn2]
          refine Sat.ite rfl (fun hq => ?_) (fun hq => ?_)
          · have hq : i < T.ls.length := by simpa using hq
            obtain ⟨B, o, sp, b, hB, ap⟩ := hr2.rln i0 hq
            obtain ⟨q, rfl⟩ : ∃ q : Nat, i = q := ⟨i.toNat, by omega⟩
            simp only [Int.toNat_natCast] at ap
            refine Sat.skip ?_
            simp -dsimp
            refine Sat.sq ?_
            refine Sat.block ?_
            refine Sat.sq ?_
            refine Sat.reg (by kernel_rfl) ?_
            simp -dsimp [t2, t3, t11, hn2, -indexAddrA, ap.idx, ↓ap.ln, hB]
            refine Sat.ite rfl (fun he => ?_) (fun he => ?_)
            · have he : (T.ls[q]!).n = k := by simpa using he
              have hlb : lb T.ls k = q := lb_eq (by omega) (fun _ => by omega) (fun r hr3 => by
                have := hg.rise r q hr3 (by omega)
                omega)
              have hl : T.look k = some (T.ls[q]!).l := by
                have : has T.ls k = true := by simp only [has, hlb, he, decide_true, Bool.and_true, decide_eq_true_eq]; omega
                simp only [Tb.look, if_neg hc, this, if_true, hlb]
              rw [hl] at ho
              generalize T.ls[q]! = m at ap ho
              refine Sat.sq ?_
              refine Sat.drw u_rshift_14 mixed (by kernel_rfl) (by kernel_rfl) (by kernel_rfl) (by kernel_rfl) ?_
              simp -dsimp [t3, t10, t11, hn2, hp2, -indexAddrA, ap.idx, ↓ap.ll, hB]
              refine Sat.sq ?_
              refine Sat.reg (by kernel_rfl) ?_
              simp -dsimp [t6, t10, hn12]
              refine Sat.ret ?_
              try simp -dsimp only [thenH_ret, blockA_ret, thenA_ret]
              exact PureQ.ret (by rfl) (by repeat (first | exact keep_refl | assumption | refine keep_upd (by omega) ?_)) (by simp [ho, t6, hn12])
            · have he : (T.ls[q]!).n ≠ k := by simpa using he
              refine Sat.skip ?_
              simp -dsimp
              have W : IntKind.i64.wrap ((q : Int) + 1) = q + 1 := wrap_in (by omega) (by omega)
              refine Sat.reg (by kernel_rfl) ?_
              simp -dsimp [t2, t3, t6, t10, t11, W]
              refine ⟨q + 1, ⟨rfl, by omega, by omega, fun r hr3 => ?_⟩, by omega⟩
              by_cases h1 : r = q
              · rw [h1]; exact he
              · exact lo r (by omega)
          · have hq : ¬ i < T.ls.length := by simpa using hq
            have hh : has T.ls k = false := by
              cases hh : has T.ls k
              · rfl
              · simp only [has, Bool.and_eq_true, decide_eq_true_eq] at hh
                exact absurd hh.2 (lo _ (by omega))
            have hl : T.look k = none := by simp [Tb.look, hc, hh]
            rw [hl] at ho
            refine Sat.exit ?_
            simp -dsimp
            refine Sat.sq ?_
            refine Sat.reg (by kernel_rfl) ?_
            simp -dsimp [t6, hn12]
            refine Sat.ret ?_
            try simp -dsimp only [thenH_ret, blockA_ret, thenA_ret]
            exact PureQ.ret (by rfl) (by repeat (first | exact keep_refl | assumption | refine keep_upd (by omega) ?_)) (by simp [ho, t6, hn12])
  · have e : T.code = 1 := by simp [Tb.code, hb]
    rw [e]
    refine Sat.cond (t := true) (by rfl) ?_
    refine Sat.sq ?_
    refine Sat.reg (by kernel_rfl) ?_
    simp -dsimp [hn1]
    exact Sat.ret (PureQ.ret rfl (by repeat (first | exact keep_refl | assumption | refine keep_upd (by omega) ?_)) (by simp [Tb.off, hb]))

end Go.Proofs.YtocbmekcokenoaaDoor
/- Walks, part B9. -/
set_option maxRecDepth 100000
set_option maxHeartbeats 4000000
set_option linter.unusedSimpArgs false
set_option linter.unusedVariables false
namespace Go.Proofs.YtocbmekcokenoaaDoor
open Go Go.Dm
attribute [local simp ↓] RunS_nil RunS_op RunS_guard RunT_nil RunT_op RunT_guard opS_call opD_call opS_move opD_move opS_assign opD_assign opS_pick opD_pick opS_nilCheck opD_nilCheck opS_fieldAddr opD_fieldAddr opS_indexAddr opD_indexAddr opS_load opD_load opS_store opD_store opS_alloc opD_alloc opS_box opD_box opS_build opD_build opS_buildSlice opD_buildSlice opS_field opD_field opS_extract opD_extract opS_makeFunc opD_makeFunc opS_slice opD_slice opS_binOp opD_binOp opS_unOp opD_unOp opS_convert opD_convert opS_index opD_index opS_len opD_len opS_append opD_append opS_max opD_max opS_min opD_min opS_makeSlice opD_makeSlice opS_makeInterface opD_makeInterface opS_copy opD_copy opS_data opD_data opS_string opD_string opS_cap opD_cap obind_some obind_none thenH_normal thenH_ret thenH_exit blockA_normal blockA_ret blockA_exit thenA_normal thenA_ret thenA_exit dstAt_mk dstL_zero dstL_succ
attribute [local simp] shB undef wantG_bool wantG_undef findO_some calleeS find putA ev closed3 closed2 closed1 closed0 pickA orE_some orE_none binF binXO binX binB strX unF convF convX convB mxF eqNilA fastBin fastUn fastConv intBin argEnv resultsA resultsL resultA notTuple allocs eff
  loadO storeO allocO boxO sliceO sliceX indexO indexXO indexX indexB lenO lenS capX ifaceO indexAddrA loadA storeA newA isAggT nilCheckA lenA evAll evParts aadd gen upd_at upd_upd Value.cells mxV Pairs apart readsS readB labOf putAt fieldA partA extractA makeFuncA evOpt boundOf sliceA isV0 Nat.add_assoc
attribute [local simp] bu23_z bu23_0_1_2 bu27_z bu27_0_1 bu27_0 bu33_z bu33_0 bu48_0_1 bu61_0_1 bs25_0_z bs25_1_0 bs31_0_z bs31_1_0 bs74_1_0 bs82_3_0_1_2
attribute [local simp ↓] eql23 neq23 eql48 neq48 eql61 neq61 eql24 neq24
attribute [local simp] fa23_0 fa23_1 fa23_2 fa48_0 fa48_1 fa61_0 fa61_1 fa33_0 fa33_1 fa27_0 fa27_1
attribute [local simp] c2 b2 z2 c3 b3 z3 c4 b4 z4 c5 b5 z5 c9 b9 z9 c23 b23 z23 h23 g23 c24 b24 z24 c25 b25 z25 c27 b27 z27 h27 g27 c29 b29 z29 c31 b31 z31 c33 b33 z33 h33 g33 c48 b48 z48 h48 g48 c50 b50 z50 c58 b58 z58 c61 b61 z61 h61 g61 Tryd.underlying2 Tryd.underlying3 Tryd.underlying4 Tryd.underlying5 Tryd.underlying9 Tryd.underlying23 Tryd.underlying24 Tryd.underlying25 Tryd.underlying27 Tryd.underlying29 Tryd.underlying31 Tryd.underlying33 Tryd.underlying48 Tryd.underlying50 Tryd.underlying58 Tryd.underlying61
theorem w_rmove {h : Heap} {s : Value} {T : Tb} (hr : RD h 2 s (lnCells T.ls) T.ls.length) (few : T.ls.length ≤ 1000000000000) (hwk : ∀ p ∈ T.work, p.Fit) (c k : Int) (p : P3) (sg : Int) (n : Nat) :
    Dm.Spec Tryd.prog 36 [T.v s, .int .i64 c, .int .i64 k, p.v, .int .i64 sg] h n fun r' h' n' => r' = posV (T.go c k p sg) ∧ h' = h ∧ n' = n := by
  refine pureAt Tryd.func36 rfl (by kernel_rfl) Tryd.ntmps36 (by rw [Tryd.results36]) (Nat.le_of_ble_eq_true rfl) ?_
  refine Sat.lt fun hlt => ?_
  obtain ⟨Ad, cd, rfl⟩ := hr.len
  refine Sat.sq ?_
  refine Sat.reg (by kernel_rfl) ?_
  simp -dsimp
  generalize hh1 : upd (upd (upd h n _) (n + 1) _) (n + 2) _ = h1
  have hn : h1 n = some ⟨T.wcells ++ [.slice Ad T.ls.length cd], 27, 0, true⟩ := by rw [← hh1]; simp [upd_at]
  have hn1 : h1 (n + 1) = some ⟨p.cells, 23, 0, true⟩ := by rw [← hh1]; simp [upd_at]
  have hn2 : h1 (n + 2) = some ⟨[.int .i64 0, .int .i64 0, .int .i64 0], 23, 0, true⟩ := by rw [← hh1]; simp [upd_at]
  have hk : ∀ L, L < n → h1 L = h L := fun L hL => by rw [← hh1, upd_at, upd_at, upd_at, if_neg (by omega), if_neg (by omega), if_neg (by omega)]
  have hr1 : RD h1 2 _ (lnCells T.ls) T.ls.length := hr.mono fun L b hb => by rw [hk L (hlt _ _ hb)]; exact hb
  refine Sat.sq ?_
  refine Sat.reg (by kernel_rfl) ?_
  simp -dsimp [hn]
  refine (w_rshift hr1 few hwk c k _).useH ?_
  have hgo : T.go c k p sg = if (T.off c k).2 = 0 then mvM p (T.off c k).1 sg else (P0, (T.off c k).2) := rfl
  generalize T.off c k = be at hgo ⊢
  obtain ⟨b, e⟩ := be
  dsimp only at hgo
  simp -dsimp
  refine Sat.sq ?_
  refine Sat.sq ?_
  refine Sat.reg (by kernel_rfl) ?_
  simp -dsimp
  refine Sat.ite rfl (fun hc => ?_) (fun hc => ?_)
  · have hc : ¬ e = 0 := by simpa using hc
    rw [if_neg hc] at hgo
    refine Sat.sq ?_
    refine Sat.reg (by kernel_rfl) ?_
    simp -dsimp [hn2]
    exact Sat.ret (PureQ.ret rfl (by repeat (first | exact keep_refl | assumption | refine keep_upd (by omega) ?_)) (by simp [hgo]))
  · have hc : e = 0 := by simpa using hc
    rw [if_pos hc] at hgo
    refine Sat.skip ?_
    simp -dsimp
    refine Sat.sq ?_
    refine Sat.sq ?_
    refine Sat.reg (by kernel_rfl) ?_
    simp -dsimp [hn1]
    refine (w_rout p).useH ?_
    simp -dsimp
    cases hf : p.far
    · refine Sat.cond (t := false) (by rfl) ?_
      refine Sat.skip ?_
      simp -dsimp
      refine Sat.sq ?_
      refine Sat.reg (by kernel_rfl) ?_
      simp -dsimp [hn1]
      refine Sat.sq ?_
      refine Sat.sq ?_
      refine Sat.reg (by kernel_rfl) ?_
      simp -dsimp
      refine (w_rout (mvq p b sg)).useH ?_
      simp -dsimp
      cases hf2 : (mvq p b sg).far
      · refine Sat.cond (t := false) (by rfl) ?_
        refine Sat.skip ?_
        simp -dsimp
        refine Sat.sq ?_
        refine Sat.reg (by kernel_rfl) ?_
        simp -dsimp [hn2]
        exact Sat.ret (PureQ.ret rfl (by repeat (first | exact keep_refl | assumption | refine keep_upd (by omega) ?_)) (by simp [hgo, mvM, hf, hf2]))
      · refine Sat.cond (t := true) (by rfl) ?_
        refine Sat.sq ?_
        refine Sat.reg (by kernel_rfl) ?_
        simp -dsimp [hn2]
        exact Sat.ret (PureQ.ret rfl (by repeat (first | exact keep_refl | assumption | refine keep_upd (by omega) ?_)) (by simp [hgo, mvM, hf, hf2]))
    · refine Sat.cond (t := true) (by rfl) ?_
      refine Sat.sq ?_
      refine Sat.reg (by kernel_rfl) ?_
      simp -dsimp [hn2]
      exact Sat.ret (PureQ.ret rfl (by repeat (first | exact keep_refl | assumption | refine keep_upd (by omega) ?_)) (by simp [hgo, mvM, hf]))
theorem w_rMachine {h : Heap} {s : Value} {T : Tb} (hr : RD h 2 s (lnCells T.ls) T.ls.length) (few : T.ls.length ≤ 1000000000000) (hwk : ∀ p ∈ T.work, p.Fit) (c k : Int) (p : P3) (n : Nat) :
    Dm.Spec Tryd.prog 20 [T.v s, .int .i64 c, .int .i64 k, p.v] h n fun r' h' n' => r' = posV (T.go c k p (1)) ∧ h' = h ∧ n' = n := by
  refine pureAt Tryd.func20 rfl (by kernel_rfl) Tryd.ntmps20 (by rw [Tryd.results20]) (Nat.le_of_ble_eq_true rfl) ?_
  refine Sat.lt fun hlt => ?_
  obtain ⟨Ad, cd, rfl⟩ := hr.len
  refine Sat.sq ?_
  refine Sat.reg (by kernel_rfl) ?_
  simp -dsimp
  generalize hh1 : upd (upd (upd h n _) (n + 1) _) (n + 2) _ = h1
  have hn : h1 n = some ⟨T.wcells ++ [.slice Ad T.ls.length cd], 27, 0, true⟩ := by rw [← hh1]; simp [upd_at]
  have hn1 : h1 (n + 1) = some ⟨p.cells, 23, 0, true⟩ := by rw [← hh1]; simp [upd_at]
  have hn2 : h1 (n + 2) = some ⟨[.int .i64 0, .int .i64 0, .int .i64 0], 23, 0, true⟩ := by rw [← hh1]; simp [upd_at]
  have hk : ∀ L, L < n → h1 L = h L := fun L hL => by rw [← hh1, upd_at, upd_at, upd_at, if_neg (by omega), if_neg (by omega), if_neg (by omega)]
  have hr1 : RD h1 2 _ (lnCells T.ls) T.ls.length := hr.mono fun L b hb => by rw [hk L (hlt _ _ hb)]; exact hb
  refine Sat.sq ?_
  refine Sat.reg (by kernel_rfl) ?_
  simp -dsimp [hn, hn1]
  refine (w_rmove hr1 few hwk c k p (1) _).useH ?_
  generalize T.go c k p (1) = be
  obtain ⟨b, e⟩ := be
  simp -dsimp [hn2]
  exact Sat.ret (PureQ.ret rfl (by repeat (first | exact keep_refl | assumption | refine keep_upd (by omega) ?_)) (by simp))
theorem w_rWork {h : Heap} {s : Value} {T : Tb} (hr : RD h 2 s (lnCells T.ls) T.ls.length) (few : T.ls.length ≤ 1000000000000) (hwk : ∀ p ∈ T.work, p.Fit) (c k : Int) (p : P3) (n : Nat) :
    Dm.Spec Tryd.prog 22 [T.v s, .int .i64 c, .int .i64 k, p.v] h n fun r' h' n' => r' = posV (T.go c k p (-1)) ∧ h' = h ∧ n' = n := by
  refine pureAt Tryd.func22 rfl (by kernel_rfl) Tryd.ntmps22 (by rw [Tryd.results22]) (Nat.le_of_ble_eq_true rfl) ?_
  refine Sat.lt fun hlt => ?_
  obtain ⟨Ad, cd, rfl⟩ := hr.len
  refine Sat.sq ?_
  refine Sat.reg (by kernel_rfl) ?_
  simp -dsimp
  generalize hh1 : upd (upd (upd h n _) (n + 1) _) (n + 2) _ = h1
  have hn : h1 n = some ⟨T.wcells ++ [.slice Ad T.ls.length cd], 27, 0, true⟩ := by rw [← hh1]; simp [upd_at]
  have hn1 : h1 (n + 1) = some ⟨p.cells, 23, 0, true⟩ := by rw [← hh1]; simp [upd_at]
  have hn2 : h1 (n + 2) = some ⟨[.int .i64 0, .int .i64 0, .int .i64 0], 23, 0, true⟩ := by rw [← hh1]; simp [upd_at]
  have hk : ∀ L, L < n → h1 L = h L := fun L hL => by rw [← hh1, upd_at, upd_at, upd_at, if_neg (by omega), if_neg (by omega), if_neg (by omega)]
  have hr1 : RD h1 2 _ (lnCells T.ls) T.ls.length := hr.mono fun L b hb => by rw [hk L (hlt _ _ hb)]; exact hb
  refine Sat.sq ?_
  refine Sat.reg (by kernel_rfl) ?_
  simp -dsimp [hn, hn1]
  refine (w_rmove hr1 few hwk c k p (-1) _).useH ?_
  generalize T.go c k p (-1) = be
  obtain ⟨b, e⟩ := be
  simp -dsimp [hn2]
  exact Sat.ret (PureQ.ret rfl (by repeat (first | exact keep_refl | assumption | refine keep_upd (by omega) ?_)) (by simp))

end Go.Proofs.YtocbmekcokenoaaDoor
/- Walks, part L2. -/
set_option maxRecDepth 100000
set_option maxHeartbeats 4000000
set_option linter.unusedSimpArgs false
set_option linter.unusedVariables false
namespace Go.Proofs.YtocbmekcokenoaaDoor
open Go Go.Dm
attribute [local simp ↓] RunS_nil RunS_op RunS_guard RunT_nil RunT_op RunT_guard opS_call opD_call opS_move opD_move opS_assign opD_assign opS_pick opD_pick opS_nilCheck opD_nilCheck opS_fieldAddr opD_fieldAddr opS_indexAddr opD_indexAddr opS_load opD_load opS_store opD_store opS_alloc opD_alloc opS_box opD_box opS_build opD_build opS_buildSlice opD_buildSlice opS_field opD_field opS_extract opD_extract opS_makeFunc opD_makeFunc opS_slice opD_slice opS_binOp opD_binOp opS_unOp opD_unOp opS_convert opD_convert opS_index opD_index opS_len opD_len opS_append opD_append opS_max opD_max opS_min opD_min opS_makeSlice opD_makeSlice opS_makeInterface opD_makeInterface opS_copy opD_copy opS_data opD_data opS_string opD_string opS_cap opD_cap obind_some obind_none thenH_normal thenH_ret thenH_exit blockA_normal blockA_ret blockA_exit thenA_normal thenA_ret thenA_exit dstAt_mk dstL_zero dstL_succ
attribute [local simp] shB undef wantG_bool wantG_undef findO_some calleeS find putA ev closed3 closed2 closed1 closed0 pickA orE_some orE_none binF binXO binX binB strX unF convF convX convB mxF eqNilA fastBin fastUn fastConv intBin argEnv resultsA resultsL resultA notTuple allocs eff
  loadO storeO allocO boxO sliceO sliceX indexO indexXO indexX indexB lenO lenS capX ifaceO indexAddrA loadA storeA newA isAggT nilCheckA lenA evAll evParts aadd gen upd_at upd_upd Value.cells mxV Pairs apart readsS readB labOf putAt fieldA partA extractA makeFuncA evOpt boundOf sliceA isV0 Nat.add_assoc
attribute [local simp] bu23_z bu23_0_1_2 bu27_z bu27_0_1 bu27_0 bu33_z bu33_0 bu48_0_1 bu61_0_1 bs25_0_z bs25_1_0 bs31_0_z bs31_1_0 bs74_1_0 bs82_3_0_1_2
attribute [local simp ↓] eql23 neq23 eql48 neq48 eql61 neq61 eql24 neq24
attribute [local simp] fa23_0 fa23_1 fa23_2 fa48_0 fa48_1 fa61_0 fa61_1 fa33_0 fa33_1 fa27_0 fa27_1
attribute [local simp] c2 b2 z2 c3 b3 z3 c4 b4 z4 c5 b5 z5 c9 b9 z9 c23 b23 z23 h23 g23 c24 b24 z24 c25 b25 z25 c27 b27 z27 h27 g27 c29 b29 z29 c31 b31 z31 c33 b33 z33 h33 g33 c48 b48 z48 h48 g48 c50 b50 z50 c58 b58 z58 c61 b61 z61 h61 g61 Tryd.underlying2 Tryd.underlying3 Tryd.underlying4 Tryd.underlying5 Tryd.underlying9 Tryd.underlying23 Tryd.underlying24 Tryd.underlying25 Tryd.underlying27 Tryd.underlying29 Tryd.underlying31 Tryd.underlying33 Tryd.underlying48 Tryd.underlying50 Tryd.underlying58 Tryd.underlying61
theorem near1 {n : Int} (h : far1 n = false) : -10000000 ≤ n ∧ n ≤ 10000000 := by
  simp only [far1, Bool.or_eq_false_iff, decide_eq_false_iff_not] at h; omega
theorem P3.near {p : P3} (h : p.far = false) : (-10000000 ≤ p.x ∧ p.x ≤ 10000000) ∧ (-10000000 ≤ p.y ∧ p.y ≤ 10000000) ∧ (-10000000 ≤ p.z ∧ p.z ≤ 10000000) := by
  simp only [P3.far, Bool.or_eq_false_iff] at h
  exact ⟨near1 h.1.1, near1 h.1.2, near1 h.2⟩
theorem off_near {T : Tb} {c k : Int} {b : P3} (h : T.off c k = (b, 0)) : (-30000000 ≤ b.x ∧ b.x ≤ 30000000) ∧ (-30000000 ≤ b.y ∧ b.y ≤ 30000000) ∧ (-30000000 ≤ b.z ∧ b.z ≤ 30000000) := by
  unfold Tb.off at h
  split at h
  · simp at h
  · rename_i hb
    have hg := Tb.good (by simpa using hb)
    split at h
    · rename_i i l hs hl
      have hm : T.work[i]! ∈ T.work := by
        have := get_lt (l := T.work) (i := (i : Int)) (by omega) (by have : T.work.length = 6 := rfl; have := slot_lt hs; omega)
        simpa only [Int.toNat_natCast] using this
      have hn := P3.near (hg.near _ hm)
      generalize T.work[i]! = p at hn h
      have hl2 : 0 ≤ l ∧ l ≤ 10000000 := by
        unfold Tb.look at hl
        split at hl
        · cases hl; omega
        · split at hl
          · rename_i hh
            cases hl
            simp only [has, Bool.and_eq_true, decide_eq_true_eq] at hh
            have := hg.ok _ hh.1
            simp only [Ln.ok, Bool.and_eq_true, decide_eq_true_eq] at this
            omega
          · cases hl
      simp only [Prod.mk.injEq, and_true] at h
      rw [wrap_in (by omega) (by omega)] at h
      subst h
      dsimp only
      omega
    · simp at h
theorem go_inv {T : Tb} {c k : Int} {p a : P3} {sg : Int} (hs : sg = 1 ∨ sg = -1) (h : T.go c k p sg = (a, 0)) : T.go c k a (-sg) = (p, 0) := by
  unfold Tb.go at h ⊢
  split at h
  · rename_i h0
    rw [if_pos h0]
    obtain ⟨b, hb⟩ : ∃ b, T.off c k = (b, 0) := ⟨(T.off c k).1, by rw [← h0]⟩
    rw [hb] at h ⊢
    dsimp only at h ⊢
    have hn := off_near hb
    unfold mvM at h
    split at h
    · simp at h
    · rename_i hp
      split at h
      · simp at h
      · rename_i hq
        have hp : p.far = false := by simpa using hp
        have hq : (mvq p b sg).far = false := by simpa using hq
        simp only [Prod.mk.injEq, and_true] at h
        have hpn := P3.near hp
        have e : ∀ (x y : Int), -10000000 ≤ x → x ≤ 10000000 → -30000000 ≤ y → y ≤ 30000000 → IntKind.i64.wrap (IntKind.i64.wrap (x + IntKind.i64.wrap (sg * y)) + IntKind.i64.wrap (-sg * y)) = x := by
          intro x y h1 h2 h3 h4
          rcases hs with rfl | rfl
          · rw [wrap_in (x := 1 * y) (by omega) (by omega), wrap_in (x := x + 1 * y) (by omega) (by omega), wrap_in (x := -1 * y) (by omega) (by omega), wrap_in (by omega) (by omega)]; omega
          · rw [wrap_in (x := -1 * y) (by omega) (by omega), wrap_in (x := x + -1 * y) (by omega) (by omega), wrap_in (x := - -1 * y) (by omega) (by omega), wrap_in (by omega) (by omega)]; omega
        have hback : mvq a b (-sg) = p := by
          rw [← h]
          obtain ⟨px, py, pz⟩ := p
          simp only [mvq, P3.mk.injEq]
          exact ⟨e _ _ hpn.1.1 hpn.1.2 hn.1.1 hn.1.2, e _ _ hpn.2.1.1 hpn.2.1.2 hn.2.1.1 hn.2.1.2, e _ _ hpn.2.2.1 hpn.2.2.2 hn.2.2.1 hn.2.2.2⟩
        unfold mvM
        rw [hback, hp, ← h, hq]; simp
  · rename_i h0
    simp only [Prod.mk.injEq] at h
    exact absurd h.2 h0
theorem w_lTableInverse {h : Heap} {s : Value} {T : Tb} (hr : RD h 2 s (lnCells T.ls) T.ls.length) (c k : Int) (p : P3) (n : Nat) :
    Dm.Spec Tryd.prog 7 [T.v s, .agg #[.int .i64 c, .int .i64 k], p.v] h n fun r' h' n' => r' = .bool true ∧ h' = h ∧ n' = n := by
  refine pureAt Tryd.func7 rfl (by kernel_rfl) Tryd.ntmps7 (by rw [Tryd.results7]) (Nat.le_of_ble_eq_true rfl) ?_
  refine Sat.lt fun hlt => ?_
  obtain ⟨Ad, cd, rfl⟩ := hr.len
  refine Sat.sq ?_
  refine Sat.reg (by kernel_rfl) ?_
  simp -dsimp
  generalize hh1 : upd (upd (upd h n _) (n + 1) _) (n + 2) _ = h1
  have hn : h1 n = some ⟨T.wcells ++ [.slice Ad T.ls.length cd], 27, 0, true⟩ := by rw [← hh1]; simp [upd_at]
  have hn1 : h1 (n + 1) = some ⟨[.int .i64 c, .int .i64 k], 50, 0, true⟩ := by rw [← hh1]; simp [upd_at]
  have hn2 : h1 (n + 2) = some ⟨p.cells, 23, 0, true⟩ := by rw [← hh1]; simp [upd_at]
  have hk : ∀ L, L < n → h1 L = h L := fun L hL => by rw [← hh1, upd_at, upd_at, upd_at, if_neg (by omega), if_neg (by omega), if_neg (by omega)]
  have hr1 : RD h1 2 _ (lnCells T.ls) T.ls.length := hr.mono fun L b hb => by rw [hk L (hlt _ _ hb)]; exact hb
  refine Sat.sq ?_
  refine Sat.sq ?_
  refine Sat.reg (by kernel_rfl) ?_
  simp -dsimp
  refine w8.useH ?_
  simp -dsimp [hn]
  refine Sat.ite rfl (fun hc => ?_) (fun hc => ?_)
  · refine Sat.sq ?_
    refine Sat.reg (by kernel_rfl) ?_
    simp -dsimp
    refine w8.useH ?_
    simp -dsimp
    exact Sat.ret (PureQ.ret rfl hk rfl)
  · have few : T.ls.length ≤ 40 := by
      have : ¬ (40 : Int) < T.ls.length := by simpa using hc
      omega
    refine Sat.skip ?_
    simp -dsimp
    refine Sat.sq ?_
    refine Sat.reg (by kernel_rfl) ?_
    simp -dsimp [hn]
    refine (w_ltheirs_raw hr1 (by omega) (n + 3)).mono ?_
    rintro r h2 n2 ⟨hnn, hsame, s', rfl, hg⟩
    obtain ⟨A2, c2, e2⟩ := hg.val
    subst e2
    simp -dsimp
    generalize hh3 : upd h2 n2 _ = h3
    have g0 : h3 n2 = some ⟨T.wcells ++ [.slice A2 T.ls.length c2], 33, 0, true⟩ := by rw [← hh3]; simp [upd_at]
    have hk3 : ∀ L, L < n + 3 → h3 L = h1 L := fun L hL => by rw [← hh3, upd_at, if_neg (by omega)]; exact hsame L hL
    have g1 : h3 (n + 1) = some ⟨[.int .i64 c, .int .i64 k], 50, 0, true⟩ := by rw [hk3 _ (by omega)]; exact hn1
    have g2 : h3 (n + 2) = some ⟨p.cells, 23, 0, true⟩ := by rw [hk3 _ (by omega)]; exact hn2
    have hr3 : RD h3 2 (.slice A2 T.ls.length c2) (lnCells T.ls) T.ls.length := gs_rd (hg.frame (fun L h1 h2 => by rw [← hh3, upd_at, if_neg (by omega)]) (Nat.le_refl _))
    have hkk : ∀ L, L < n → h3 L = h L := fun L hL => by rw [hk3 _ (by omega)]; exact hk L hL
    refine Sat.join (fun T2 h4 n4 => find T2 4 = some (.pointer (some ⟨n + 1, 0, none⟩)) ∧ find T2 5 = some (.pointer (some ⟨n + 2, 0, none⟩)) ∧ find T2 7 = some (.pointer (some ⟨n2, 0, none⟩)) ∧ n2 + 1 ≤ n4 ∧ ∀ L, L < n2 + 1 → h4 L = h3 L) ?_ ?_
    · refine Sat.sq ?_
      refine Sat.reg (by kernel_rfl) ?_
      simp -dsimp [g0, g1, g2]
      refine (w_tMachine hr3 (by omega) c k p _).useH ?_
      have hinv := fun h0 : (T.go c k p 1).2 = 0 => go_inv (T := T) (c := c) (k := k) (p := p) (a := (T.go c k p 1).1) (sg := 1) (by simp) (by rw [← h0])
      generalize T.go c k p 1 = be at hinv ⊢
      obtain ⟨a, e⟩ := be
      dsimp only at hinv
      simp -dsimp
      generalize hhN : upd h3 _ _ = hN
      have kN : ∀ L, L < n2 + 1 → hN L = h3 L := fun L hL => by rw [← hhN, upd_at, if_neg (by omega)]
      have aN : hN (n2 + 1) = some ⟨a.cells, 23, 0, true⟩ := by rw [← hhN]; simp [upd_at]
      have b0 : hN n2 = some ⟨T.wcells ++ [.slice A2 T.ls.length c2], 33, 0, true⟩ := by rw [kN _ (by omega)]; exact g0
      have b1 : hN (n + 1) = some ⟨[.int .i64 c, .int .i64 k], 50, 0, true⟩ := by rw [kN _ (by omega)]; exact g1
      have b2 : hN (n + 2) = some ⟨p.cells, 23, 0, true⟩ := by rw [kN _ (by omega)]; exact g2
      have hrN : RD hN 2 (.slice A2 T.ls.length c2) (lnCells T.ls) T.ls.length := gs_rd (hg.frame (fun L h1 h2 => by rw [kN _ (by omega), ← hh3, upd_at, if_neg (by omega)]) (Nat.le_refl _))
      refine Sat.sq ?_
      refine Sat.reg (by kernel_rfl) ?_
      simp -dsimp
      refine Sat.ite rfl (fun hc => ?_) (fun hc => ?_)
      · have he : e = 0 := by simpa using hc
        subst he
        have hinv := hinv rfl
        refine Sat.sq ?_
        refine Sat.reg (by kernel_rfl) ?_
        simp -dsimp [b0, b1, aN]
        refine (w_tWork hrN (by omega) c k a _).useH ?_
        rw [hinv]
        simp -dsimp
        refine Sat.sq ?_
        refine Sat.reg (by kernel_rfl) ?_
        simp -dsimp [b2, ne2 (show n + 2 < n2 + 1 + 1 by omega), ne2 (show n + 2 < n2 + 2 by omega)]
        refine Sat.cond (t := false) (by rfl) ?_
        refine Sat.skip ?_
        simp -dsimp
        exact fun L hL => by rw [if_neg (by omega)]; exact kN L hL
      · refine Sat.skip ?_
        simp -dsimp
        exact fun L hL => kN L hL
    · rintro T2 h4 n4 ⟨t4, t5, t7, hn4, hk4⟩
      have g0 : h4 n2 = some ⟨T.wcells ++ [.slice A2 T.ls.length c2], 33, 0, true⟩ := by rw [hk4 _ (by omega)]; exact g0
      have g1 : h4 (n + 1) = some ⟨[.int .i64 c, .int .i64 k], 50, 0, true⟩ := by rw [hk4 _ (by omega)]; exact g1
      have g2 : h4 (n + 2) = some ⟨p.cells, 23, 0, true⟩ := by rw [hk4 _ (by omega)]; exact g2
      have hr4 : RD h4 2 (.slice A2 T.ls.length c2) (lnCells T.ls) T.ls.length := gs_rd (hg.frame (fun L h1 h2 => by rw [hk4 _ (by omega), ← hh3, upd_at, if_neg (by omega)]) (Nat.le_refl _))
      have hkk : ∀ L, L < n → h4 L = h L := fun L hL => by rw [hk4 _ (by omega)]; exact hkk L hL
      refine Sat.sq ?_
      refine Sat.sq ?_
      refine Sat.reg (by kernel_rfl) ?_
      simp -dsimp [t4, t5, t7, g0, g1, g2]
      refine (w_tWork hr4 (by omega) c k p _).useH ?_
      have hinv := fun h0 : (T.go c k p (-1)).2 = 0 => go_inv (T := T) (c := c) (k := k) (p := p) (a := (T.go c k p (-1)).1) (sg := -1) (by simp) (by rw [← h0])
      generalize T.go c k p (-1) = be at hinv ⊢
      obtain ⟨a, e⟩ := be
      dsimp only at hinv
      simp -dsimp [t4, t5, t7]
      generalize hhN : upd h4 _ _ = hN
      have kN : ∀ L, L < n4 → hN L = h4 L := fun L hL => by rw [← hhN, upd_at, if_neg (by omega)]
      have aN : hN n4 = some ⟨a.cells, 23, 0, true⟩ := by rw [← hhN]; simp [upd_at]
      have b0 : hN n2 = some ⟨T.wcells ++ [.slice A2 T.ls.length c2], 33, 0, true⟩ := by rw [kN _ (by omega)]; exact g0
      have b1 : hN (n + 1) = some ⟨[.int .i64 c, .int .i64 k], 50, 0, true⟩ := by rw [kN _ (by omega)]; exact g1
      have b2 : hN (n + 2) = some ⟨p.cells, 23, 0, true⟩ := by rw [kN _ (by omega)]; exact g2
      have hkN : ∀ L, L < n → hN L = h L := fun L hL => by rw [kN _ (by omega)]; exact hkk L hL
      have hrN : RD hN 2 (.slice A2 T.ls.length c2) (lnCells T.ls) T.ls.length := gs_rd (hg.frame (fun L h1 h2 => by rw [kN _ (by omega), hk4 _ (by omega), ← hh3, upd_at, if_neg (by omega)]) (Nat.le_refl _))
      refine Sat.sq ?_
      refine Sat.reg (by kernel_rfl) ?_
      simp -dsimp
      refine Sat.ite rfl (fun hc => ?_) (fun hc => ?_)
      · have he : e = 0 := by simpa using hc
        subst he
        have hinv := hinv rfl
        refine Sat.sq ?_
        refine Sat.reg (by kernel_rfl) ?_
        simp -dsimp [t4, t5, t7, b0, b1, aN]
        refine (w_tMachine hrN (by omega) c k a _).useH ?_
        rw [show T.go c k a 1 = (p, 0) from hinv]
        simp -dsimp
        refine Sat.sq ?_
        refine Sat.reg (by kernel_rfl) ?_
        simp -dsimp [t5, b2, ne2 (show n + 2 < n4 + 1 by omega)]
        refine Sat.cond (t := false) (by rfl) ?_
        refine Sat.skip ?_
        simp -dsimp
        refine Sat.sq ?_
        refine Sat.reg (by kernel_rfl) ?_
        simp -dsimp
        exact Sat.ret (PureQ.ret rfl (by repeat (first | exact keep_refl | assumption | refine keep_upd (by omega) ?_)) rfl)
      · refine Sat.skip ?_
        simp -dsimp
        refine Sat.sq ?_
        refine Sat.reg (by kernel_rfl) ?_
        simp -dsimp
        exact Sat.ret (PureQ.ret rfl hkN rfl)

end Go.Proofs.YtocbmekcokenoaaDoor
