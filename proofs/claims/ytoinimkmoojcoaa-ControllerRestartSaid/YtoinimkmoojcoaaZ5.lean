/- ControllerRestart returns true for every input, and leaves its arguments as they were. -/
import Derived.Test.YtoinimkmoojcoaaG7
import Derived.Test.YtoinimkmoojcoaaRows
import Derived.ShutString
set_option maxRecDepth 100000
set_option maxHeartbeats 4000000
set_option linter.unusedSimpArgs false
set_option linter.unusedVariables false
namespace Go.Proofs.Ytoinimkmoojcoaa
open Go Go.Dm
attribute [local simp ↓] RunS_nil RunS_op RunS_guard RunT_nil RunT_op RunT_guard opS_call opD_call opS_move opD_move opS_assign opD_assign opS_pick opD_pick opS_nilCheck opD_nilCheck opS_fieldAddr opD_fieldAddr opS_indexAddr opD_indexAddr opS_load opD_load opS_store opD_store opS_alloc opD_alloc opS_box opD_box opS_build opD_build opS_buildSlice opD_buildSlice opS_field opD_field opS_extract opD_extract opS_makeFunc opD_makeFunc opS_slice opD_slice opS_binOp opD_binOp opS_unOp opD_unOp opS_convert opD_convert opS_index opD_index opS_len opD_len opS_append opD_append opS_max opD_max opS_min opD_min obind_some obind_none thenH_normal thenH_ret thenH_exit blockA_normal blockA_ret blockA_exit thenA_normal thenA_ret thenA_exit dstAt_mk dstL_zero dstL_succ
attribute [local simp] undef wantG_bool wantG_undef findO_some calleeS find putA ev closed3 closed2 closed1 closed0 pickA binF unF convF mxF eqNilA fastBin fastUn fastConv intBin argEnv resultsA resultsL resultA notTuple allocs eff
  loadO storeO allocO boxO sliceO indexO indexAddrA loadA storeA newA isAggT nilCheckA lenA evAll evParts aadd gen upd_at upd_upd Value.cells mxV Pairs apart readsS labOf putAt fieldA partA extractA makeFuncA evOpt boundOf sliceA Nat.add_assoc
attribute [local simp] bu107_z bu107_0_1 bu25_0_1_2 bu36_z bu36_0_1 bu36_0_1_2 bu36_0 bu38_z bu38_0_1_2_3_4 bu38_0_1_3 bu38_0_1_3_4 bu38_1_2 bu38_1_2_3 bu52_0_1_10 bu81_0_1 bs22_0_z bs22_1_0 bs22_2_0_1 bs39_1_0 bs39_7_0_1_2_3_4_5_6 bs95_4_0_1_2_3
attribute [local simp ↓] eql107 neq107 eql36 neq36 eql38 neq38 eql25 neq25
attribute [local simp] fa25_0 fa25_1 fa25_2 fa36_0 fa36_1 fa36_2 fa38_0 fa38_1 fa38_2 fa38_3 fa38_4 fa107_0 fa107_1 fa81_0 fa81_1 fa81_2 fa81_3 fa81_4 fa81_5 fa81_6 fa81_7 fa81_8 fa81_9 fa81_10 fa52_0 fa52_1 fa52_2 fa52_3 fa52_4 fa52_5 fa52_6 fa52_7 fa52_8 fa52_9 fa52_10 fa52_11 fa52_12
attribute [local simp] c22 c39 c29 z22 z39 c25 c38 c2 c3 c4 c36 c107 c30 z25 z38 z2 z3 z4 z36 z107 b38 b25 b107 h38 h25 h36 h107 g38 g25 g36 g107 Try.underlying25 Try.underlying38 Try.underlying2 Try.underlying3 Try.underlying4 Try.underlying36 Try.underlying22 Try.underlying39 Try.underlying29 Try.underlying81 Try.underlying107 Try.underlying30
attribute [local simp] mx mn
theorem GS.appendAny {h : Heap} {s : Value} {cells : List Value} {m lo hi : Nat} (hg : GS h 38 9 s cells m lo hi) {Ax : Option Addr} {k dx : Nat} {xs : List Value} (hx : sliceCells Try.prog h 9 (.slice Ax k dx) = some xs) (hl : xs.length = k * 9) {L : Nat} (hL : hi ≤ L) (hlo : lo ≤ L) (hroom : m + k ≤ 1000000000000) :
    ∃ s' E, appendA Try.prog h 22 s (.slice Ax k dx) L = some (s', E) ∧ (∀ L', (L' < lo ∨ L < L' ∨ hi ≤ L' ∧ L' ≠ L) → eff h E L' = h L') ∧ L ≤ allocs L E ∧ allocs L E ≤ L + 1 ∧ GS (eff h E) 38 9 s' (cells ++ xs) (m + k) lo (allocs L E) := by
  by_cases hk : k = 0
  · subst hk
    have : xs = [] := List.eq_nil_of_length_eq_zero (by omega)
    subst this
    obtain ⟨A, c, e⟩ := hg.val
    refine ⟨s, none, ?_, fun _ _ => rfl, Nat.le_refl _, Nat.le_succ _, ?_⟩
    · subst e; unfold appendA
      simp only [Try.underlying22, c38, if_pos (show 0 < 9 by omega), if_true]
    · rw [List.append_nil]; exact hg.frame (fun _ _ _ => rfl) hL
  rcases hg with ⟨rfl, rfl, rfl⟩ | ⟨h1, L1, sp, rfl, h3, h4, h5, h6⟩
  · refine ⟨.slice (some ⟨L, 0, none⟩) k 11, some (L, ⟨xs, 38, 0, true⟩), ?_, ?_, ?_, ?_, ?_⟩
    · unfold appendA
      simp only [Try.underlying22, c38, if_pos (show 0 < 9 by omega), if_neg hk, hx, z38, b38]
      have e0 : sliceCells Try.prog h 9 (.slice none 0 0) = some [] := rfl
      rw [e0]
      simp; omega
    · intro L' hL'; simp only [eff, upd_at]; rw [if_neg (by omega)]
    · simp [allocs]
    · simp [allocs]
    · exact .inr ⟨by omega, L, none, by simp, by simp [eff, upd_at], by simp; omega, hlo, by simp [allocs]⟩
  · have hos : sliceCells Try.prog h 9 (.slice (some ⟨L1, 0, sp⟩) m 11) = some cells := by
      obtain ⟨m, rfl⟩ : ∃ j, m = j + 1 := ⟨m - 1, by omega⟩
      simp only [sliceCells, h3, gen]
      simp [h4]
      rw [← h4]; exact List.take_length
    have hne : ¬ L1 = L := by omega
    refine ⟨.slice (some ⟨L1, 0, some (sp.getD 0 + 1)⟩) (m + k) 11, some (L1, ⟨cells ++ xs, 38, sp.getD 0 + 1, true⟩), ?_, ?_, ?_, ?_, ?_⟩
    · unfold appendA
      simp only [Try.underlying22, c38, if_pos (show 0 < 9 by omega), if_neg hk, hx, hos, z38, b38]
      rw [if_pos ⟨by first | trivial | rfl, by omega, by omega⟩, if_neg (by simp), if_pos ⟨by first | trivial | rfl, h1⟩]
      simp [h3, h4]
    · intro L' hL'; simp only [eff, upd_at]; rw [if_neg (by omega)]
    · simp [allocs, hne]
    · simp [allocs, hne]
    · refine .inr ⟨by omega, L1, some (sp.getD 0 + 1), rfl, by simp [eff, upd_at], by simp [h4, hl, Nat.add_mul], h5, ?_⟩
      simp [allocs, hne]; omega
theorem motCells_drop : ∀ (l : List Mot) (i : Nat), (motCells l).drop (i * 9) = motCells (l.drop i)
  | l, 0 => by simp
  | [], i + 1 => by simp [motCells]
  | m :: l, i + 1 => by
    have := motCells_drop l i
    simp only [motCells, List.flatMap_cons, List.drop_succ_cons] at *
    rw [List.drop_append, List.drop_eq_nil_of_le (by simp [Mot.cells]; omega)]
    rw [show (i + 1) * 9 - m.cells.length = i * 9 by simp [Mot.cells]; omega]
    simpa using this
/-- The rest of a slice. -/
theorem RO.drop {h : Heap} {v : Value} {l : List Mot} (hr : RO h 9 v (motCells l) l.length) {i : Int} (h0 : 0 ≤ i) (h1 : i ≤ l.length) :
    ∃ sv, sliceA Try.prog 22 v (some (.int .i64 i)) none = some sv ∧ RO h 9 sv (motCells (l.drop i.toNat)) (l.drop i.toNat).length := by
  obtain ⟨hl, A, c, rfl, hn, hp⟩ := hr
  obtain ⟨j, rfl⟩ : ∃ j : Nat, i = j := ⟨i.toNat, by omega⟩
  have hj : j ≤ l.length := by omega
  simp only [Int.toNat_natCast]
  unfold sliceA
  simp only [Try.underlying22, boundOf, c38]
  rw [if_pos ⟨by omega, h0, h1, by omega⟩]
  by_cases he : j = l.length
  · have hd : l.drop j = [] := by rw [he]; simp
    rw [hd, if_pos (by omega)]
    cases A with
    | none => exact ⟨_, rfl, RO.nil⟩
    | some a => exact ⟨_, rfl, rfl, _, _, rfl, fun h => (nomatch h), fun h => absurd h (by simp)⟩
  · rw [if_neg (by omega)]
    obtain ⟨a, b, rfl, x2, x3, x4, x5, x6⟩ := hp (by omega)
    have key : ∀ c2, RO h 9 (.slice (some (aadd a (j * 9))) (l.drop j).length c2) (motCells (l.drop j)) (l.drop j).length := by
      intro c2
      refine ⟨by rw [motCells_length], some (aadd a (j * 9)), c2, rfl, fun h => (nomatch h), fun _ => ⟨aadd a (j * 9), b, rfl, x2, x3, x4, ?_, ?_⟩⟩
      · simp [aadd]; omega
      · rw [← motCells_drop, ← x6]
        simp only [aadd, List.length_drop]
        rw [List.drop_take, List.drop_drop]
        congr 1
        omega
    refine ⟨_, rfl, ?_⟩
    rw [show ((l.length : Int) - (j : Int)).toNat = (l.drop j).length by simp <;> omega]
    exact key _
def begM (l : List Mot) (i : Int) (at0 : P3) : P3 := if i < l.length then (l[i.toNat]!).fr else if 0 < l.length then (l[l.length - 1]!).to else at0
theorem w63 {h : Heap} {lv : Value} {l : List Mot} (hr : RO h 9 lv (motCells l) l.length) (few : l.length ≤ 1000000) {i : Int} (h0 : 0 ≤ i) (at0 : P3) (n : Nat) :
    Dm.Spec Try.prog 63 [lv, .int .i64 i, at0.v] h n fun r' h' n' => r' = (begM l i at0).v ∧ h' = h ∧ n' = n := by
  refine pureAt Try.func63 rfl (by kernel_rfl) Try.ntmps63 (by rw [Try.results63]) (Nat.le_of_ble_eq_true rfl) ?_
  refine Sat.lt fun hlt => ?_
  obtain ⟨Ad, cd, rfl⟩ := hr.len
  refine Sat.sq ?_
  refine Sat.reg (by kernel_rfl) ?_
  simp -dsimp
  refine Sat.sq ?_
  refine Sat.sq ?_
  refine Sat.reg (by kernel_rfl) ?_
  simp -dsimp
  refine Sat.ite rfl (fun hc => ?_) (fun hc => ?_)
  · have hc : i < l.length := by simpa using hc
    obtain ⟨B, o, sp, b, hB, hbo, am⟩ := hr.mot h0 hc
    have hb : begM l i at0 = (l[i.toNat]!).fr := by simp only [begM, if_pos hc]
    rw [hb]
    generalize l[i.toNat]! = m at *
    have nB := ne2 (show B < n from hlt B b hB)
    have nB1 := ne2 (show B < n + 1 by have := hlt B b hB; omega)
    refine Sat.sq ?_
    refine Sat.reg (by kernel_rfl) ?_
    simp -dsimp [-indexAddrA, am.idx, ↓am.l36, hB, nB, nB1]
    refine Sat.ret ?_
    try simp -dsimp only [thenH_ret, blockA_ret, thenA_ret]
    refine PureQ.ret (r := m.fr.v) (by rfl) ?_ (by simp [Mot.fr])
    repeat (first | exact keep_refl | refine keep_upd (by omega) ?_)
  have hc : ¬ i < l.length := by simpa using hc
  refine Sat.skip ?_
  simp -dsimp
  refine Sat.sq ?_
  refine Sat.sq ?_
  refine Sat.reg (by kernel_rfl) ?_
  simp -dsimp
  refine Sat.ite rfl (fun hz => ?_) (fun hz => ?_)
  · have hz : 0 < l.length := by
      have : (0 : Int) < l.length := by simpa using hz
      omega
    have hb : begM l i at0 = (l[l.length - 1]!).to := by simp only [begM, if_neg hc, if_pos hz]
    obtain ⟨B, o, sp, b, hB, hbo, am⟩ := hr.mot (i := (l.length : Int) - 1) (by omega) (by omega)
    rw [show ((l.length : Int) - 1).toNat = l.length - 1 by omega] at am
    rw [hb]
    have W : IntKind.i64.wrap ((l.length : Int) - 1) = (l.length : Int) - 1 := wrap_in (by omega) (by omega)
    generalize l[l.length - 1]! = m at *
    have nB := ne2 (show B < n from hlt B b hB)
    have nB1 := ne2 (show B < n + 1 by have := hlt B b hB; omega)
    refine Sat.sq ?_
    refine Sat.reg (by kernel_rfl) ?_
    simp -dsimp [W, -indexAddrA, am.idx, ↓am.l36', hB, nB, nB1]
    refine Sat.ret ?_
    try simp -dsimp only [thenH_ret, blockA_ret, thenA_ret]
    refine PureQ.ret (r := m.to.v) (by rfl) ?_ (by simp [Mot.to])
    repeat (first | exact keep_refl | refine keep_upd (by omega) ?_)
  · have hz : ¬ 0 < l.length := by
      have : ¬ (0 : Int) < l.length := by simpa using hz
      omega
    have hb : begM l i at0 = at0 := by simp only [begM, if_neg hc, if_neg hz]
    rw [hb]
    refine Sat.skip ?_
    simp -dsimp
    refine Sat.sq ?_
    refine Sat.reg (by kernel_rfl) ?_
    simp -dsimp
    refine Sat.ret ?_
    try simp -dsimp only [thenH_ret, blockA_ret, thenA_ret]
    refine PureQ.ret (r := at0.v) (by rfl) ?_ (by simp)
    repeat (first | exact keep_refl | refine keep_upd (by omega) ?_)
/-- The rate of a motion, or of the last one before it that has one. -/
def rateL (l : List Mot) : Nat → Int → Int
  | 0, _ => 0
  | k + 1, i => if 0 ≤ i then (if (l[i.toNat]!).rate = 0 then rateL l k (i - 1) else (l[i.toNat]!).rate) else 0
def rateM (l : List Mot) (i : Int) : Int := rateL l (l.length + 1) (min i (l.length - 1))
theorem rateL_neg (l : List Mot) (k : Nat) {i : Int} (h : ¬ 0 ≤ i) : rateL l k i = 0 := by cases k <;> simp [rateL, h]
theorem w64 {h : Heap} {lv : Value} {l : List Mot} (hr : RO h 9 lv (motCells l) l.length) (few : l.length ≤ 1000000) {i : Int} (h0 : 0 ≤ i) (n : Nat) :
    Dm.Spec Try.prog 64 [lv, .int .i64 i] h n fun r' h' n' => r' = .int .i64 (rateM l i) ∧ h' = h ∧ n' = n := by
  refine pureAt Try.func64 rfl (by kernel_rfl) Try.ntmps64 (by rw [Try.results64]) (Nat.le_of_ble_eq_true rfl) ?_
  obtain ⟨Ad, cd, rfl⟩ := hr.len
  have W : IntKind.i64.wrap ((l.length : Int) - 1) = (l.length : Int) - 1 := wrap_in (by omega) (by omega)
  refine Sat.sq ?_
  refine Sat.reg (by kernel_rfl) ?_
  simp -dsimp
  refine Sat.sq ?_
  refine Sat.sq ?_
  refine Sat.reg (by kernel_rfl) ?_
  simp -dsimp [W]
  refine Sat.block ?_
  refine Sat.loop (ι := Nat × Int) (fun j T h' n' => find T 0 = some (.slice Ad l.length cd) ∧ find T 5 = some (.int .i64 j.2) ∧ h' = h ∧ n' = n ∧ -1 ≤ j.2 ∧ j.2 < l.length ∧ j.2 < j.1 ∧ rateL l j.1 j.2 = rateM l i) (fun j => j.1) (l.length + 1, min i (l.length - 1)) ?_ ?_
  · simp -dsimp
    refine ⟨by omega, by omega, by omega, by simp [rateM]⟩
  · rintro ⟨k, j⟩ T h' n' ⟨t0, t5, rfl, rfl, j0, j1, jk, he⟩
    simp only at t5 j0 j1 jk he
    refine Sat.sq ?_
    refine Sat.sq ?_
    refine Sat.reg (by kernel_rfl) ?_
    simp -dsimp [t5]
    refine Sat.ite rfl (fun hc => ?_) (fun hc => ?_)
    · have hc : 0 ≤ j := by simpa using hc
      obtain ⟨k, rfl⟩ : ∃ k', k = k' + 1 := ⟨k - 1, by omega⟩
      obtain ⟨B, o, sp, b, hB, hbo, am⟩ := hr.mot hc j1
      rw [rateL, if_pos hc] at he
      generalize l[j.toNat]! = m at *
      refine Sat.skip ?_
      simp -dsimp
      refine Sat.sq ?_
      refine Sat.block ?_
      refine Sat.sq ?_
      refine Sat.reg (by kernel_rfl) ?_
      simp -dsimp [t0, t5, -indexAddrA, am.idx, ↓am.l2, hB]
      refine Sat.ite rfl (fun hz => ?_) (fun hz => ?_)
      · have hz : ¬ m.rate = 0 := by simpa using hz
        rw [if_neg hz] at he
        refine Sat.sq ?_
        refine Sat.reg (by kernel_rfl) ?_
        simp -dsimp [t0, t5, -indexAddrA, am.idx, ↓am.l2, hB]
        refine Sat.ret ?_
        try simp -dsimp only [thenH_ret, blockA_ret, thenA_ret]
        refine PureQ.ret (r := .int .i64 (rateM l i)) (by rfl) keep_refl ?_
        simp [he]
      · have hz : m.rate = 0 := by simpa using hz
        rw [if_pos hz] at he
        have W2 : IntKind.i64.wrap (j - 1) = j - 1 := wrap_in (by omega) (by omega)
        refine Sat.skip ?_
        simp -dsimp
        refine Sat.reg (by kernel_rfl) ?_
        simp -dsimp [t0, t5, W2]
        exact ⟨k, ⟨by omega, by omega, by omega, he⟩, by omega⟩
    · have hc : ¬ 0 ≤ j := by simpa using hc
      rw [rateL_neg l k hc] at he
      refine Sat.exit ?_
      simp -dsimp
      refine Sat.sq ?_
      refine Sat.reg (by kernel_rfl) ?_
      simp -dsimp
      refine Sat.ret ?_
      try simp -dsimp only [thenH_ret, blockA_ret, thenA_ret]
      refine PureQ.ret (r := .int .i64 (rateM l i)) (by rfl) keep_refl ?_
      simp [← he]

end Go.Proofs.Ytoinimkmoojcoaa
/- Walks, part R2. -/
set_option maxRecDepth 100000
set_option maxHeartbeats 4000000
set_option linter.unusedSimpArgs false
set_option linter.unusedVariables false
namespace Go.Proofs.Ytoinimkmoojcoaa
open Go Go.Dm
attribute [local simp ↓] RunS_nil RunS_op RunS_guard RunT_nil RunT_op RunT_guard opS_call opD_call opS_move opD_move opS_assign opD_assign opS_pick opD_pick opS_nilCheck opD_nilCheck opS_fieldAddr opD_fieldAddr opS_indexAddr opD_indexAddr opS_load opD_load opS_store opD_store opS_alloc opD_alloc opS_box opD_box opS_build opD_build opS_buildSlice opD_buildSlice opS_field opD_field opS_extract opD_extract opS_makeFunc opD_makeFunc opS_slice opD_slice opS_binOp opD_binOp opS_unOp opD_unOp opS_convert opD_convert opS_index opD_index opS_len opD_len opS_append opD_append opS_max opD_max opS_min opD_min obind_some obind_none thenH_normal thenH_ret thenH_exit blockA_normal blockA_ret blockA_exit thenA_normal thenA_ret thenA_exit dstAt_mk dstL_zero dstL_succ
attribute [local simp] undef wantG_bool wantG_undef findO_some calleeS find putA ev closed3 closed2 closed1 closed0 pickA binF unF convF mxF eqNilA fastBin fastUn fastConv intBin argEnv resultsA resultsL resultA notTuple allocs eff
  loadO storeO allocO boxO sliceO indexO indexAddrA loadA storeA newA isAggT nilCheckA lenA evAll evParts aadd gen upd_at upd_upd Value.cells mxV Pairs apart readsS labOf putAt fieldA partA extractA makeFuncA evOpt boundOf sliceA Nat.add_assoc
attribute [local simp] bu107_z bu107_0_1 bu25_0_1_2 bu36_z bu36_0_1 bu36_0_1_2 bu36_0 bu38_z bu38_0_1_2_3_4 bu38_0_1_3 bu38_0_1_3_4 bu38_1_2 bu38_1_2_3 bu52_0_1_10 bu81_0_1 bs22_0_z bs22_1_0 bs22_2_0_1 bs39_1_0 bs39_7_0_1_2_3_4_5_6 bs95_4_0_1_2_3
attribute [local simp ↓] eql107 neq107 eql36 neq36 eql38 neq38 eql25 neq25
attribute [local simp] fa25_0 fa25_1 fa25_2 fa36_0 fa36_1 fa36_2 fa38_0 fa38_1 fa38_2 fa38_3 fa38_4 fa107_0 fa107_1 fa81_0 fa81_1 fa81_2 fa81_3 fa81_4 fa81_5 fa81_6 fa81_7 fa81_8 fa81_9 fa81_10 fa52_0 fa52_1 fa52_2 fa52_3 fa52_4 fa52_5 fa52_6 fa52_7 fa52_8 fa52_9 fa52_10 fa52_11 fa52_12
attribute [local simp] c22 c39 c29 z22 z39 c25 c38 c2 c3 c4 c36 c107 c30 z25 z38 z2 z3 z4 z36 z107 b38 b25 b107 h38 h25 h36 h107 g38 g25 g36 g107 Try.underlying25 Try.underlying38 Try.underlying2 Try.underlying3 Try.underlying4 Try.underlying36 Try.underlying22 Try.underlying39 Try.underlying29 Try.underlying81 Try.underlying107 Try.underlying30
attribute [local simp] mx mn
def likeM (l : List Mot) (i : Int) : Mot := if i < l.length then l[i.toNat]! else if 0 < l.length then l[l.length - 1]! else ⟨0, 0, 0, 0, 0, 0, 0, 0, 0⟩
/-- The places of the way back. -/
def ptR (a b : P3) (safe : Int) : Nat → P3
  | 0 => a
  | 1 => ⟨a.x, a.y, safe⟩
  | 2 => ⟨b.x, b.y, safe⟩
  | 3 => ⟨b.x, b.y, max b.z 1000⟩
  | _ => b
def legMot (a b : P3) (safe rate tool block : Int) (j : Nat) : Mot := ⟨(ptR a b safe j).x, (ptR a b safe j).y, (ptR a b safe j).z, (ptR a b safe (j + 1)).x, (ptR a b safe (j + 1)).y, (ptR a b safe (j + 1)).z, if j = 3 then rate else 0, tool, block⟩
def legsTo (a b : P3) (safe rate tool block : Int) : Nat → List Mot
  | 0 => []
  | j + 1 => legsTo a b safe rate tool block j ++ (if ptR a b safe j = ptR a b safe (j + 1) then [] else [legMot a b safe rate tool block j])
def restM (l : List Mot) (i : Int) (a : P3) (safe : Int) : List Mot × Int :=
  if i < 0 ∨ l.length < i then ([], 1) else
  let b := begM l i a
  if safe < a.z ∨ safe < b.z ∨ safe < 1000 then ([], 1) else
  if a = b then (l.drop i.toNat, 0) else
  if b.z < 1000 ∧ rateM l i = 0 then ([], 13) else
  (legsTo a b safe (rateM l i) (likeM l i).tool (likeM l i).block 4 ++ l.drop i.toNat, 0)
def restPost (l : List Mot) (i : Int) (a : P3) (safe : Int) (h : Heap) (n : Nat) (r : Value) (h' : Heap) (n' : Nat) : Prop :=
  n ≤ n' ∧ (∀ L, L < n → h' L = h L) ∧ ∃ s, r = .tuple #[s, .int .i64 (restM l i a safe).2] ∧ RO h' 9 s (motCells (restM l i a safe).1) (restM l i a safe).1.length
theorem legsTo_len (a b : P3) (safe rate tool block : Int) : ∀ j, (legsTo a b safe rate tool block j).length ≤ j
  | 0 => by simp [legsTo]
  | j + 1 => by have := legsTo_len a b safe rate tool block j; simp only [legsTo]; split <;> simp <;> omega
abbrev wayC (a b : P3) (safe : Int) : List Value := [.int .i64 a.x, .int .i64 a.y, .int .i64 safe, .int .i64 b.x, .int .i64 b.y, .int .i64 safe, .int .i64 b.x, .int .i64 b.y, .int .i64 (max b.z 1000), .int .i64 b.x, .int .i64 b.y, .int .i64 b.z]
theorem way_at {h : Heap} {W : Nat} {a b : P3} {safe : Int} {o : Bool} (hW : h W = some ⟨wayC a b safe, 36, 0, o⟩) (j : Nat) (hj : j < 4) : loadA Try.prog h 36 ⟨W, j * 3, none⟩ = some (ptR a b safe (j + 1)).v := by
  unfold loadA
  simp only [Try.underlying36, hW, gen, isAggT, c36, if_true]
  match j, hj with
  | 0, _ => simp [ptR]
  | 1, _ => simp [ptR]
  | 2, _ => simp [ptR]
  | 3, _ => simp [ptR]
theorem GS.toRO {h : Heap} {e k m lo hi : Nat} {s : Value} {cells : List Value} (hg : GS h e k s cells m lo hi) : RO h k s cells m ∨ ∃ L b, h L = some b ∧ lo ≤ L ∧ L < hi ∧ RO (upd h L { b with own := false }) k s cells m := by
  rcases hg with ⟨rfl, rfl, rfl⟩ | ⟨h1, L, sp, h2, h3, h4, h5, h6⟩
  · exact .inl RO.nil
  · refine .inr ⟨L, _, h3, h5, h6, h4, some ⟨L, 0, sp⟩, k + 2, h2, (fun h => nomatch h), fun _ => ⟨⟨L, 0, sp⟩, ⟨cells, e, sp.getD 0, false⟩, rfl, by rw [upd_at, if_pos rfl], rfl, rfl, by simp [h4], by simp [← h4]⟩⟩
theorem Fz.freeze {h : Heap} {L : Nat} {b : Blk} (hb : h L = some b) : Fz h (Dm.upd h L { b with own := false }) := by
  intro L' b' x y
  rw [upd_at]; split
  · rename_i e; subst e; rw [hb] at x; cases x; congr 1; cases b; simp_all
  · exact x
abbrev u26_6 : List (Nat × Nat) := [(8, 9)]
abbrev u26_8 : List (Nat × Nat) := [(12, 13)]
theorem w26 {h : Heap} {lv : Value} {l : List Mot} (hr : RO h 9 lv (motCells l) l.length) (few : l.length ≤ 1000000) (i : Int) (a : P3) (safe : Int) (n : Nat) :
    Dm.Spec Try.prog 26 [lv, .int .i64 i, a.v, .int .i64 safe] h n (restPost l i a safe h n) := by
  refine Spec.body Try.func26 rfl (by kernel_rfl) Try.ntmps26 (by rw [Try.results26]) (Nat.le_of_ble_eq_true rfl) ?_
  refine Sat.lt fun hlt => ?_
  obtain ⟨Ad, cd, rfl⟩ := hr.len
  have hk1 : ∀ L, L < n → upd h n ⟨[.int .i64 a.x, .int .i64 a.y, .int .i64 a.z], 36, 0, true⟩ L = h L := keep_upd (by omega) keep_refl
  refine Sat.sq ?_
  refine Sat.reg (by kernel_rfl) ?_
  simp -dsimp
  refine Sat.sq ?_
  refine Sat.sq ?_
  refine Sat.reg (by kernel_rfl) ?_
  by_cases hi0 : i < 0
  · have hm : restM l i a safe = ([], 1) := by simp [restM, hi0]
    simp -dsimp [hi0]
    refine Sat.cond (t := true) (by rfl) ?_
    refine Sat.sq ?_
    refine Sat.reg (by kernel_rfl) ?_
    simp -dsimp
    refine Sat.ret ?_
    try simp -dsimp only [thenH_ret, blockA_ret, thenA_ret]
    exact RetQ.ret (r := .tuple #[.slice none 0 0, .int .i64 1]) (by rfl) ⟨by omega, hk1, _, by rw [hm], by rw [hm]; exact RO.nil⟩
  by_cases hi1 : (l.length : Int) < i
  · have hm : restM l i a safe = ([], 1) := by simp [restM, hi1]
    simp -dsimp [hi0, hi1]
    refine Sat.cond (t := true) (by rfl) ?_
    refine Sat.sq ?_
    refine Sat.reg (by kernel_rfl) ?_
    simp -dsimp
    refine Sat.ret ?_
    try simp -dsimp only [thenH_ret, blockA_ret, thenA_ret]
    exact RetQ.ret (r := .tuple #[.slice none 0 0, .int .i64 1]) (by rfl) ⟨by omega, hk1, _, by rw [hm], by rw [hm]; exact RO.nil⟩
  simp -dsimp [hi0, hi1]
  refine Sat.cond (t := false) (by rfl) ?_
  refine Sat.skip ?_
  simp -dsimp
  refine Sat.sq ?_
  refine Sat.reg (by kernel_rfl) ?_
  simp -dsimp
  refine Sat.sq ?_
  refine Sat.reg (by kernel_rfl) ?_
  simp -dsimp
  refine Sat.join (fun T h' n' => find T 0 = some (.slice Ad l.length cd) ∧ find T 1 = some (.int .i64 i) ∧ find T 3 = some (.int .i64 safe) ∧ find T 6 = some (.pointer (some ⟨n, 0, none⟩)) ∧ find T 10 = some (.pointer (some ⟨n + 1, 0, none⟩)) ∧ find T 11 = some (.pointer (some ⟨n + 2, 0, none⟩)) ∧
    h' = upd (upd (upd h n ⟨[.int .i64 a.x, .int .i64 a.y, .int .i64 a.z], 36, 0, true⟩) (n + 1) ⟨[.int .i64 (begM l i a).x, .int .i64 (begM l i a).y, .int .i64 (begM l i a).z], 36, 0, true⟩) (n + 2) ⟨(likeM l i).cells, 38, 0, true⟩ ∧ n' = n + 3) ?_ ?_
  · refine Sat.block ?_
    refine Sat.sq ?_
    refine Sat.reg (by kernel_rfl) ?_
    simp -dsimp
    refine Sat.ite rfl (fun hc => ?_) (fun hc => ?_)
    · have hc : i < l.length := by simpa using hc
      obtain ⟨B, o, sp, b, hB, hbo, am⟩ := hr.mot (by omega) hc
      have hb : begM l i a = (l[i.toNat]!).fr := by simp only [begM, if_pos hc]
      have hlk : likeM l i = l[i.toNat]! := by simp only [likeM, if_pos hc]
      rw [hb, hlk]
      generalize l[i.toNat]! = m at *
      have nB := ne2 (show B < n from hlt B b hB)
      have nB1 := ne2 (show B < n + 1 by have := hlt B b hB; omega)
      have nB2 := ne2 (show B < n + 2 by have := hlt B b hB; omega)
      refine Sat.drw u26_6 mixed (by kernel_rfl) (by kernel_rfl) (by kernel_rfl) (by kernel_rfl) ?_
      simp -dsimp [-indexAddrA, am.idx, ↓am.l36, ↓am.l38, hB, nB, nB1, nB2]
      funext L
      simp only [upd_at]
      split
      · rename_i e; subst e; simp [Mot.cells]
      · split
        · simp [Mot.fr]
        · rfl
    · have hc : ¬ i < l.length := by simpa using hc
      refine Sat.sq ?_
      refine Sat.reg (by kernel_rfl) ?_
      simp -dsimp
      refine Sat.ite rfl (fun hz => ?_) (fun hz => ?_)
      · have hz : 0 < l.length := by
          have : (0 : Int) < l.length := by simpa using hz
          omega
        have hb : begM l i a = (l[l.length - 1]!).to := by simp only [begM, if_neg hc, if_pos hz]
        have hlk : likeM l i = l[l.length - 1]! := by simp only [likeM, if_neg hc, if_pos hz]
        obtain ⟨B, o, sp, b, hB, hbo, am⟩ := hr.mot (i := (l.length : Int) - 1) (by omega) (by omega)
        rw [show ((l.length : Int) - 1).toNat = l.length - 1 by omega] at am
        have W : IntKind.i64.wrap ((l.length : Int) - 1) = (l.length : Int) - 1 := wrap_in (by omega) (by omega)
        rw [hb, hlk]
        generalize l[l.length - 1]! = m at *
        have nB := ne2 (show B < n from hlt B b hB)
        have nB1 := ne2 (show B < n + 1 by have := hlt B b hB; omega)
        have nB2 := ne2 (show B < n + 2 by have := hlt B b hB; omega)
        refine Sat.drw u26_8 mixed (by kernel_rfl) (by kernel_rfl) (by kernel_rfl) (by kernel_rfl) ?_
        simp -dsimp [W, -indexAddrA, am.idx, ↓am.l36', ↓am.l38, hB, nB, nB1, nB2]
        funext L
        simp only [upd_at]
        split
        · rename_i e; subst e; simp [Mot.cells]
        · split
          · simp [Mot.to]
          · rfl
      · have hz : ¬ 0 < l.length := by
          have : ¬ (0 : Int) < l.length := by simpa using hz
          omega
        have hb : begM l i a = a := by simp only [begM, if_neg hc, if_neg hz]
        have hlk : likeM l i = ⟨0, 0, 0, 0, 0, 0, 0, 0, 0⟩ := by simp only [likeM, if_neg hc, if_neg hz]
        rw [hb, hlk]
        refine Sat.skip ?_
        simp -dsimp
        rfl
  rintro T h3 n3 ⟨t0, t1, t3, t6, t10, t11, rfl, rfl⟩
  have hrm : restM l i a safe = if safe < a.z ∨ safe < (begM l i a).z ∨ safe < 1000 then ([], 1) else if a = begM l i a then (l.drop i.toNat, 0) else if (begM l i a).z < 1000 ∧ rateM l i = 0 then ([], 13) else
      (legsTo a (begM l i a) safe (rateM l i) (likeM l i).tool (likeM l i).block 4 ++ l.drop i.toNat, 0) := by simp only [restM]; rw [if_neg (by omega)]
  generalize begM l i a = b at *
  generalize likeM l i = lk at *
  have hk3 : ∀ L, L < n → upd (upd (upd h n ⟨[.int .i64 a.x, .int .i64 a.y, .int .i64 a.z], 36, 0, true⟩) (n + 1) ⟨[.int .i64 b.x, .int .i64 b.y, .int .i64 b.z], 36, 0, true⟩) (n + 2) ⟨lk.cells, 38, 0, true⟩ L = h L := by
    repeat (first | exact keep_refl | refine keep_upd (by omega) ?_)
  have e0 : upd (upd (upd h n ⟨[.int .i64 a.x, .int .i64 a.y, .int .i64 a.z], 36, 0, true⟩) (n + 1) ⟨[.int .i64 b.x, .int .i64 b.y, .int .i64 b.z], 36, 0, true⟩) (n + 2) ⟨lk.cells, 38, 0, true⟩ n = some ⟨[.int .i64 a.x, .int .i64 a.y, .int .i64 a.z], 36, 0, true⟩ := by
    rw [upd_at, if_neg (by omega), upd_at, if_neg (by omega), upd_at, if_pos rfl]
  have e1 : upd (upd (upd h n ⟨[.int .i64 a.x, .int .i64 a.y, .int .i64 a.z], 36, 0, true⟩) (n + 1) ⟨[.int .i64 b.x, .int .i64 b.y, .int .i64 b.z], 36, 0, true⟩) (n + 2) ⟨lk.cells, 38, 0, true⟩ (n + 1) = some ⟨[.int .i64 b.x, .int .i64 b.y, .int .i64 b.z], 36, 0, true⟩ := by
    rw [upd_at, if_neg (by omega), upd_at, if_pos rfl]
  have e2 : upd (upd (upd h n ⟨[.int .i64 a.x, .int .i64 a.y, .int .i64 a.z], 36, 0, true⟩) (n + 1) ⟨[.int .i64 b.x, .int .i64 b.y, .int .i64 b.z], 36, 0, true⟩) (n + 2) ⟨lk.cells, 38, 0, true⟩ (n + 2) = some ⟨lk.cells, 38, 0, true⟩ := by
    rw [upd_at, if_pos rfl]
  have hl3 := lt_fresh (b := ⟨lk.cells, 38, 0, true⟩) (lt_fresh (b := ⟨[.int .i64 b.x, .int .i64 b.y, .int .i64 b.z], 36, 0, true⟩) (lt_fresh (b := ⟨[.int .i64 a.x, .int .i64 a.y, .int .i64 a.z], 36, 0, true⟩) hlt))
  generalize upd (upd (upd h n _) _ _) _ _ = h3 at *
  have hr3 : RO h3 9 (.slice Ad l.length cd) (motCells l) l.length := hr.fz fun L b x _ => by rw [hk3 L (hlt L b x)]; exact x
  refine Sat.sq ?_
  refine Sat.sq ?_
  refine Sat.reg (by kernel_rfl) ?_
  simp -dsimp [t3, t6, t10, e0, e1]
  refine Sat.ite rfl (fun hc => ?_) (fun hc => ?_)
  · have hc : safe < a.z ∨ safe < b.z ∨ safe < 1000 := by simp at hc; omega
    rw [if_pos hc] at hrm
    refine Sat.sq ?_
    refine Sat.reg (by kernel_rfl) ?_
    simp -dsimp
    refine Sat.ret ?_
    try simp -dsimp only [thenH_ret, blockA_ret, thenA_ret]
    exact RetQ.ret (r := .tuple #[.slice none 0 0, .int .i64 1]) (by rfl) ⟨by omega, hk3, _, by rw [hrm], by rw [hrm]; exact RO.nil⟩
  have hc : ¬ (safe < a.z ∨ safe < b.z ∨ safe < 1000) := by simp at hc; omega
  rw [if_neg hc] at hrm
  refine Sat.skip ?_
  simp -dsimp
  obtain ⟨sv, hsv, hrs⟩ := hr3.drop (i := i) (by omega) (by omega)
  have hdl : (l.drop i.toNat).length ≤ 1000000 := by simp; omega
  generalize l.drop i.toNat = rest at *
  obtain ⟨Ac, cc, us, hcl, hus, hrc, hsame, hlt4⟩ := w44x hrs (by omega) (n + 3) hl3
  refine Sat.sq ?_
  refine Sat.reg (by kernel_rfl) ?_
  simp -dsimp [t0, t1, -sliceA, hsv]
  refine hcl.useH ?_
  have hk4 : ∀ L, L < n → applyU h3 us L = h L := fun L hL => by rw [hsame L (by omega)]; exact hk3 L hL
  have f0 := (hsame n (by omega)).trans e0
  have f1 := (hsame (n + 1) (by omega)).trans e1
  have f2 := (hsame (n + 2) (by omega)).trans e2
  have hr4 : RO (applyU h3 us) 9 (.slice Ad l.length cd) (motCells l) l.length := hr3.fz fun L b x _ => by rw [hsame L (hl3 L b x)]; exact x
  generalize applyU h3 us = h4 at *
  simp -dsimp
  refine Sat.sq ?_
  refine Sat.sq ?_
  refine Sat.reg (by kernel_rfl) ?_
  simp -dsimp [t6, t10, f0, f1]
  refine Sat.ite rfl (fun hc => ?_) (fun hc => ?_)
  · have hc : a = b := by rw [P3.eq_iff]; simpa using hc
    rw [if_pos hc] at hrm
    refine Sat.sq ?_
    refine Sat.reg (by kernel_rfl) ?_
    simp -dsimp
    refine Sat.ret ?_
    try simp -dsimp only [thenH_ret, blockA_ret, thenA_ret]
    exact RetQ.ret (r := .tuple #[.slice Ac rest.length cc, .int .i64 0]) (by rfl) ⟨by omega, hk4, _, by rw [hrm], by rw [hrm]; exact hrc⟩
  have hab : ¬ a = b := by
    rw [P3.eq_iff]; simp at hc; omega
  rw [if_neg hab] at hrm
  refine Sat.skip ?_
  simp -dsimp
  refine Sat.sq ?_
  refine Sat.reg (by kernel_rfl) ?_
  simp -dsimp
  have W : IntKind.i64.wrap ((l.length : Int) - 1) = (l.length : Int) - 1 := wrap_in (by omega) (by omega)
  refine Sat.join (fun T h' n' => find T 3 = some (.int .i64 safe) ∧ find T 6 = some (.pointer (some ⟨n, 0, none⟩)) ∧ find T 10 = some (.pointer (some ⟨n + 1, 0, none⟩)) ∧ find T 11 = some (.pointer (some ⟨n + 2, 0, none⟩)) ∧ find T 12 = some (.slice Ac rest.length cc) ∧ find T 13 = some (.int .i64 (rateM l i)) ∧ h' = h4 ∧ n' = n + 4) ?_ ?_
  · refine Sat.sq ?_
    refine Sat.reg (by kernel_rfl) ?_
    simp -dsimp [t0, t1, W]
    refine Sat.block ?_
    refine Sat.loop (ι := Nat × Int × Int) (fun j T h' n' => (find T 3 = some (.int .i64 safe) ∧ find T 6 = some (.pointer (some ⟨n, 0, none⟩)) ∧ find T 10 = some (.pointer (some ⟨n + 1, 0, none⟩)) ∧ find T 11 = some (.pointer (some ⟨n + 2, 0, none⟩)) ∧ find T 12 = some (.slice Ac rest.length cc)) ∧ h' = h4 ∧ n' = n + 4 ∧
      find T 0 = some (.slice Ad l.length cd) ∧ find T 14 = some (.int .i64 j.2.1) ∧ find T 13 = some (.int .i64 j.2.2) ∧ -1 ≤ j.2.1 ∧ j.2.1 < l.length ∧ j.2.1 < j.1 ∧ (if j.2.2 = 0 then rateL l j.1 j.2.1 else j.2.2) = rateM l i) (fun j => j.1) (l.length + 1, min i (l.length - 1), 0) ?_ ?_
    · refine ⟨⟨by simp [find, t3], by simp [find, t6], by simp [find, t10], by simp [find, t11], rfl⟩, rfl, rfl, by simp [find, t0], by simp [find], by simp [find], by simp only; omega, by simp only; omega, by simp only; omega, by simp [rateM]⟩
    · rintro ⟨k, j, r⟩ T h' n' ⟨⟨t3, t6, t10, t11, t12⟩, rfl, rfl, t0, t14, t13, j0, j1, jk, he⟩
      simp only at t14 t13 j0 j1 jk he
      refine Sat.sq ?_
      refine Sat.sq ?_
      refine Sat.reg (by kernel_rfl) ?_
      by_cases hj : 0 ≤ j
      · by_cases hz : r = 0
        · subst hz
          obtain ⟨k, rfl⟩ : ∃ k', k = k' + 1 := ⟨k - 1, by omega⟩
          obtain ⟨B, o, sp, bb, hB, hbo, am⟩ := hr4.mot hj j1
          rw [if_pos rfl, rateL, if_pos hj] at he
          generalize l[j.toNat]! = m at *
          have W2 : IntKind.i64.wrap (j - 1) = j - 1 := wrap_in (by omega) (by omega)
          simp -dsimp [t13, t14, hj]
          refine Sat.cond (t := true) (by rfl) ?_
          refine Sat.skip ?_
          simp -dsimp
          refine Sat.sq ?_
          refine Sat.block ?_
          refine Sat.reg (by kernel_rfl) ?_
          simp -dsimp [t0, t14, -indexAddrA, am.idx, ↓am.l2, hB]
          refine Sat.reg (by kernel_rfl) ?_
          simp -dsimp [t0, t14, t3, t6, t10, t11, t12, W2]
          exact ⟨k, ⟨by omega, by omega, by omega, he⟩, by omega⟩
        · simp -dsimp [t13, t14, hj, hz]
          refine Sat.ite rfl (fun hh => absurd (by simpa using hh) hz) (fun hh => ?_)
          refine Sat.exit ?_
          rw [if_neg hz] at he
          simp -dsimp [t3, t6, t10, t11, t12, t13, he]
      · simp -dsimp [t13, t14, hj]
        refine Sat.cond (t := false) (by rfl) ?_
        refine Sat.exit ?_
        rw [rateL_neg l k hj] at he
        have he : r = rateM l i := by
          by_cases hz : r = 0
          · rw [if_pos hz] at he; omega
          · rw [if_neg hz] at he; exact he
        simp -dsimp [t3, t6, t10, t11, t12, t13, he]
  generalize rateM l i = rate at *
  rintro T h5 n5 ⟨t3, t6, t10, t11, t12, t13, rfl, rfl⟩
  refine Sat.join (fun T h' n' => find T 3 = some (.int .i64 safe) ∧ find T 6 = some (.pointer (some ⟨n, 0, none⟩)) ∧ find T 10 = some (.pointer (some ⟨n + 1, 0, none⟩)) ∧ find T 11 = some (.pointer (some ⟨n + 2, 0, none⟩)) ∧ find T 12 = some (.slice Ac rest.length cc) ∧ find T 13 = some (.int .i64 rate) ∧ h' = h5 ∧ n' = n + 4 ∧ ¬ (b.z < 1000 ∧ rate = 0)) ?_ ?_
  · refine Sat.sq ?_
    refine Sat.reg (by kernel_rfl) ?_
    by_cases hz : b.z < 1000
    · by_cases hq : rate = 0
      · subst hq
        rw [if_pos ⟨hz, rfl⟩] at hrm
        simp -dsimp [t10, t13, f1, hz]
        refine Sat.cond (t := true) (by rfl) ?_
        refine Sat.sq ?_
        refine Sat.reg (by kernel_rfl) ?_
        simp -dsimp
        refine Sat.ret ?_
        try simp -dsimp only [thenH_ret, blockA_ret, thenA_ret]
        exact RetQ.ret (r := .tuple #[.slice none 0 0, .int .i64 13]) (by rfl) ⟨by omega, hk4, _, by rw [hrm], by rw [hrm]; exact RO.nil⟩
      · simp -dsimp [t10, t13, f1, hz, hq]
        refine Sat.ite rfl (fun hh => absurd (by simpa using hh) hq) (fun hh => ?_)
        refine Sat.skip ?_
        simp -dsimp [t3, t6, t10, t11, t12, t13, hq]
    · simp -dsimp [t10, t13, f1, hz]
      refine Sat.cond (t := false) (by rfl) ?_
      refine Sat.skip ?_
      simp -dsimp [t3, t6, t10, t11, t12, t13, hz]
  rintro T h6 n6 ⟨t3, t6, t10, t11, t12, t13, rfl, rfl, hnb⟩
  rw [if_neg hnb] at hrm
  have hmx : (if b.z < 1000 then 1000 else b.z) = max b.z 1000 := by omega
  refine Sat.sq ?_
  refine Sat.reg (by kernel_rfl) ?_
  simp -dsimp [t3, t6, t10, f0, f1]
  have hW : upd h6 (n + 4) ⟨wayC a b safe, 36, 0, true⟩ (n + 4) = some ⟨wayC a b safe, 36, 0, true⟩ := by rw [upd_at, if_pos rfl]
  have hk7 : ∀ L, L < n + 4 → upd h6 (n + 4) ⟨wayC a b safe, 36, 0, true⟩ L = h6 L := fun L hL => by rw [upd_at, if_neg (by omega)]
  have hl7 := lt_fresh (b := ⟨wayC a b safe, 36, 0, true⟩) hlt4
  have hf7 : Fz h6 (upd h6 (n + 4) ⟨wayC a b safe, 36, 0, true⟩) := fun L bb x _ => by rw [hk7 L (hlt4 L bb x)]; exact x
  generalize upd h6 (n + 4) ⟨wayC a b safe, 36, 0, true⟩ = h7 at *
  have g0 := (hk7 n (by omega)).trans f0
  have g2 := (hk7 (n + 2) (by omega)).trans f2
  have hrc7 := hrc.fz hf7
  have hk7' : ∀ L, L < n → h7 L = h L := fun L hL => by rw [hk7 L (by omega)]; exact hk4 L hL
  refine Sat.sq ?_
  refine Sat.reg (by kernel_rfl) ?_
  simp -dsimp
  refine Sat.join (fun T h' n' => find T 12 = some (.slice Ac rest.length cc) ∧ (∀ L, L < n → h' L = h L) ∧ (∀ L, L < n + 5 → L ≠ n → h' L = h7 L) ∧ n + 5 ≤ n' ∧ ∃ s, find T 16 = some s ∧ GS h' 38 9 s (motCells (legsTo a b safe rate lk.tool lk.block 4)) (legsTo a b safe rate lk.tool lk.block 4).length (n + 5) n') ?_ ?_
  · refine Sat.sq ?_
    refine Sat.reg (by kernel_rfl) ?_
    simp -dsimp
    refine Sat.block ?_
    refine Sat.loop (ι := Nat) (fun j T h' n' => (find T 6 = some (.pointer (some ⟨n, 0, none⟩)) ∧ find T 11 = some (.pointer (some ⟨n + 2, 0, none⟩)) ∧ find T 12 = some (.slice Ac rest.length cc) ∧ find T 13 = some (.int .i64 rate) ∧ find T 122 = some (.slice (some ⟨n + 4, 0, none⟩) 4 1) ∧ find T 123 = some (.int .i64 4) ∧ find T 124 = some (.int .i64 j)) ∧
      j ≤ 4 ∧ (∀ L, L < n → h' L = h L) ∧ (∀ L, L < n + 5 → L ≠ n → h' L = h7 L) ∧ n + 5 ≤ n' ∧ h' n = some ⟨[.int .i64 (ptR a b safe j).x, .int .i64 (ptR a b safe j).y, .int .i64 (ptR a b safe j).z], 36, 0, true⟩ ∧ h' (n + 2) = some ⟨lk.cells, 38, 0, true⟩ ∧ h' (n + 4) = some ⟨wayC a b safe, 36, 0, true⟩ ∧
      ∃ s, find T 16 = some s ∧ GS h' 38 9 s (motCells (legsTo a b safe rate lk.tool lk.block j)) (legsTo a b safe rate lk.tool lk.block j).length (n + 5) n') (fun j => 4 - j) 0 ?_ ?_
    · exact ⟨⟨by simp [find, t6], by simp [find, t11], by simp [find, t12], by simp [find, t13], by simp [find], by simp [find], by simp [find]⟩, by omega, hk7', fun _ _ _ => rfl, by omega, by simpa [ptR] using g0, g2, hW, _, by simp [find], .nil⟩
    · rintro j T h' n' ⟨⟨t6, t11, t12, t13, t122, t123, t124⟩, j4, hk, hfz, ln, m0, m2, mW, s, t16, hg⟩
      refine Sat.lt fun hltj => ?_
      refine Sat.sq ?_
      refine Sat.reg (by kernel_rfl) ?_
      simp -dsimp [t123, t124]
      refine Sat.sq ?_
      refine Sat.ite rfl (fun hc => ?_) (fun hc => ?_)
      · have hc : j < 4 := by
          have : (j : Int) < 4 := by simpa using hc
          omega
        have hw := fun (h'' : Heap) (hh : h'' (n + 4) = some ⟨wayC a b safe, 36, 0, true⟩) => way_at hh j hc
        have hj4 : (j : Int) < 4 := by omega
        refine Sat.skip ?_
        simp -dsimp
        have nn := ne2 (show n < n' by omega)
        have nn1 := ne2 (show n < n' + 1 by omega)
        have n2n := ne2 (show n + 2 < n' by omega)
        have n2n1 := ne2 (show n + 2 < n' + 1 by omega)
        have n4n := ne2 (show n + 4 < n' by omega)
        have n4n1 := ne2 (show n + 4 < n' + 1 by omega)
        refine Sat.sq ?_
        refine Sat.block ?_
        refine Sat.sq ?_
        refine Sat.reg (by kernel_rfl) ?_
        simp -dsimp [t122, t124, Try.underlying95, hj4, hc, ↓hw, mW, nn]
        refine Sat.sq ?_
        refine Sat.reg (by kernel_rfl) ?_
        simp -dsimp [t6, t11, m0, m2, Mot.cells, nn, n2n, nn1]
        have X1 : Fz h' (upd (upd h' n' ⟨[.int .i64 (ptR a b safe (j + 1)).x, .int .i64 (ptR a b safe (j + 1)).y, .int .i64 (ptR a b safe (j + 1)).z], 36, 0, true⟩) (n' + 1) ⟨(legMot a b safe rate lk.tool lk.block j).cells, 38, 0, true⟩) := fun L bb x _ => by
          have := hltj L bb x
          rw [upd_at, if_neg (by omega), upd_at, if_neg (by omega)]; exact x
        have X2 : ∀ L, L < n' → upd (upd h' n' ⟨[.int .i64 (ptR a b safe (j + 1)).x, .int .i64 (ptR a b safe (j + 1)).y, .int .i64 (ptR a b safe (j + 1)).z], 36, 0, true⟩) (n' + 1) ⟨(legMot a b safe rate lk.tool lk.block j).cells, 38, 0, true⟩ L = h' L := fun L hL => by
          rw [upd_at, if_neg (by omega), upd_at, if_neg (by omega)]
        have X3 : upd (upd h' n' ⟨[.int .i64 (ptR a b safe (j + 1)).x, .int .i64 (ptR a b safe (j + 1)).y, .int .i64 (ptR a b safe (j + 1)).z], 36, 0, true⟩) (n' + 1) ⟨(legMot a b safe rate lk.tool lk.block j).cells, 38, 0, true⟩ n' = some ⟨[.int .i64 (ptR a b safe (j + 1)).x, .int .i64 (ptR a b safe (j + 1)).y, .int .i64 (ptR a b safe (j + 1)).z], 36, 0, true⟩ := by
          rw [upd_at, if_neg (by omega), upd_at, if_pos rfl]
        have X4 : upd (upd h' n' ⟨[.int .i64 (ptR a b safe (j + 1)).x, .int .i64 (ptR a b safe (j + 1)).y, .int .i64 (ptR a b safe (j + 1)).z], 36, 0, true⟩) (n' + 1) ⟨(legMot a b safe rate lk.tool lk.block j).cells, 38, 0, true⟩ (n' + 1) = some ⟨(legMot a b safe rate lk.tool lk.block j).cells, 38, 0, true⟩ := by
          rw [upd_at, if_pos rfl]
        refine Sat.join (fun T h'' n'' => (find T 6 = some (.pointer (some ⟨n, 0, none⟩)) ∧ find T 11 = some (.pointer (some ⟨n + 2, 0, none⟩)) ∧ find T 12 = some (.slice Ac rest.length cc) ∧ find T 13 = some (.int .i64 rate) ∧ find T 122 = some (.slice (some ⟨n + 4, 0, none⟩) 4 1) ∧ find T 123 = some (.int .i64 4) ∧ find T 124 = some (.int .i64 j)) ∧
          find T 16 = some s ∧ find T 18 = some (.pointer (some ⟨n', 0, none⟩)) ∧ find T 19 = some (.pointer (some ⟨n' + 1, 0, none⟩)) ∧
          h'' = upd (upd h' n' ⟨[.int .i64 (ptR a b safe (j + 1)).x, .int .i64 (ptR a b safe (j + 1)).y, .int .i64 (ptR a b safe (j + 1)).z], 36, 0, true⟩) (n' + 1) ⟨(legMot a b safe rate lk.tool lk.block j).cells, 38, 0, true⟩ ∧ n'' = n' + 2) ?_ ?_
        · refine Sat.sq ?_
          refine Sat.reg (by kernel_rfl) ?_
          simp -dsimp
          refine Sat.ite rfl (fun hz => ?_) (fun hz => ?_)
          · have hz : j = 3 := by
              have : (j : Int) = 3 := by simpa using hz
              omega
            have hl : legMot a b safe rate lk.tool lk.block j = ⟨(ptR a b safe j).x, (ptR a b safe j).y, (ptR a b safe j).z, (ptR a b safe (j + 1)).x, (ptR a b safe (j + 1)).y, (ptR a b safe (j + 1)).z, rate, lk.tool, lk.block⟩ := by simp only [legMot, if_pos hz]
            rw [hl]
            refine Sat.reg (by kernel_rfl) ?_
            simp -dsimp [t6, t11, t12, t13, t16, t122, t123, t124, Mot.cells]
          · have hz : ¬ j = 3 := by
              have : ¬ (j : Int) = 3 := by simpa using hz
              omega
            have hl : legMot a b safe rate lk.tool lk.block j = ⟨(ptR a b safe j).x, (ptR a b safe j).y, (ptR a b safe j).z, (ptR a b safe (j + 1)).x, (ptR a b safe (j + 1)).y, (ptR a b safe (j + 1)).z, 0, lk.tool, lk.block⟩ := by simp only [legMot, if_neg hz]
            rw [hl]
            refine Sat.skip ?_
            simp -dsimp [t6, t11, t12, t13, t16, t122, t123, t124, Mot.cells]
        rintro T2 h2 n2 ⟨⟨t6, t11, t12, t13, t122, t123, t124⟩, t16, t18, t19, hh2, rfl⟩
        rw [← hh2] at X1 X2 X3 X4
        have hlegs : legsTo a b safe rate lk.tool lk.block (j + 1) = legsTo a b safe rate lk.tool lk.block j ++ (if ptR a b safe j = ptR a b safe (j + 1) then [] else [legMot a b safe rate lk.tool lk.block j]) := rfl
        have hleg := legsTo_len a b safe rate lk.tool lk.block j
        have hg2 : GS h2 38 9 s (motCells (legsTo a b safe rate lk.tool lk.block j)) (legsTo a b safe rate lk.tool lk.block j).length (n + 5) n' := hg.frame (fun L h1 h3 => X2 L h3) (Nat.le_refl _)
        have hlm : (legMot a b safe rate lk.tool lk.block j).fx = (ptR a b safe j).x ∧ (legMot a b safe rate lk.tool lk.block j).fy = (ptR a b safe j).y ∧ (legMot a b safe rate lk.tool lk.block j).fz = (ptR a b safe j).z ∧ (legMot a b safe rate lk.tool lk.block j).tx = (ptR a b safe (j + 1)).x ∧ (legMot a b safe rate lk.tool lk.block j).ty = (ptR a b safe (j + 1)).y ∧ (legMot a b safe rate lk.tool lk.block j).tz = (ptR a b safe (j + 1)).z := ⟨rfl, rfl, rfl, rfl, rfl, rfl⟩
        generalize legMot a b safe rate lk.tool lk.block j = lm at *
        have m0' := (X2 n (by omega)).trans m0
        have m2' := (X2 (n + 2) (by omega)).trans m2
        have mW' := (X2 (n + 4) (by omega)).trans mW
        have hk2 : ∀ L, L < n → h2 L = h L := fun L hL => by rw [X2 L (by omega)]; exact hk L hL
        have hfz2 : ∀ L, L < n + 5 → L ≠ n → h2 L = h7 L := fun L h1 h3 => (X2 L (by omega)).trans (hfz L h1 h3)
        clear hh2
        obtain ⟨q1, q2, q3, q4, q5, q6⟩ := hlm
        refine Sat.join (fun T h'' n'' => (find T 6 = some (.pointer (some ⟨n, 0, none⟩)) ∧ find T 11 = some (.pointer (some ⟨n + 2, 0, none⟩)) ∧ find T 12 = some (.slice Ac rest.length cc) ∧ find T 13 = some (.int .i64 rate) ∧ find T 122 = some (.slice (some ⟨n + 4, 0, none⟩) 4 1) ∧ find T 123 = some (.int .i64 4) ∧ find T 124 = some (.int .i64 j)) ∧
          find T 18 = some (.pointer (some ⟨n', 0, none⟩)) ∧ (∀ L, L < n + 5 ∨ L = n' → h'' L = h2 L) ∧ (∀ L, L < n + 5 → L ≠ n → h'' L = h7 L) ∧ n' + 2 ≤ n'' ∧ ∃ s, find T 16 = some s ∧ GS h'' 38 9 s (motCells (legsTo a b safe rate lk.tool lk.block (j + 1))) (legsTo a b safe rate lk.tool lk.block (j + 1)).length (n + 5) n'') ?_ ?_
        · refine Sat.sq ?_
          refine Sat.reg (by kernel_rfl) ?_
          simp -dsimp [t19, X4, Mot.cells, q1, q2, q3, q4, q5, q6]
          refine Sat.ite rfl (fun hz => ?_) (fun hz => ?_)
          · have hz : ¬ ptR a b safe j = ptR a b safe (j + 1) := by
              rw [P3.eq_iff]
              simp only [Bool.or_eq_true, Bool.not_eq_true', decide_eq_false_iff_not] at hz
              omega
            rw [hlegs, if_neg hz, motCells_append, List.length_append, List.length_singleton, show motCells [lm] = lm.cells by simp [motCells]]
            refine Sat.reg (by kernel_rfl) ?_
            have hg3 : GS (upd h2 (n' + 2) ⟨lm.cells, 38, 0, true⟩) 38 9 s (motCells (legsTo a b safe rate lk.tool lk.block j)) (legsTo a b safe rate lk.tool lk.block j).length (n + 5) n' := hg2.frame (fun L h1 h3 => by rw [upd_at, if_neg (by omega)]) (Nat.le_refl _)
            obtain ⟨s', E, ha, hfr, hal, hal2, hg5⟩ := hg3.append (P := Try.prog) (t := 22) (L := n' + 3) (B := n' + 2) (xs := lm.cells) (bo := true) (by' := 72) Try.underlying22 c38 b38 z38 rfl (by omega) (by omega) (by rw [upd_at, if_pos rfl]) rfl (by omega) (by omega) (by omega)
            have Y1 : ∀ L, L < n + 5 ∨ L = n' → eff (upd h2 (n' + 2) ⟨lm.cells, 38, 0, true⟩) E L = h2 L := fun L hL => by
              rw [hfr _ (by omega), upd_at, if_neg (by omega)]
            have Y2 : ∀ L, L < n + 5 → L ≠ n → eff (upd h2 (n' + 2) ⟨lm.cells, 38, 0, true⟩) E L = h7 L := fun L h1 h3 => (Y1 L (.inl h1)).trans (hfz2 L h1 h3)
            dsimp only [Mot.cells] at ha hg5 Y1 Y2
            simp -dsimp [t6, t11, t12, t13, t16, t18, t19, t122, t123, t124, X4, Mot.cells, ha, -eff, -allocs]
            exact ⟨Y1, Y2, by omega, hg5⟩
          · have hz : ptR a b safe j = ptR a b safe (j + 1) := by
              rw [P3.eq_iff]
              simp only [Bool.or_eq_false_iff, Bool.not_eq_false', decide_eq_true_eq] at hz
              omega
            rw [hlegs, if_pos hz, List.append_nil]
            refine Sat.skip ?_
            simp -dsimp [t6, t11, t12, t13, t16, t18, t122, t123, t124]
            exact ⟨hfz2, hg2.frame (fun _ _ _ => rfl) (by omega)⟩
        rintro T3 h3 n3 ⟨⟨t6, t11, t12, t13, t122, t123, t124⟩, t18, Y1, Y2, ln3, s, t16, hg3⟩
        have W3 : IntKind.i64.wrap ((j : Int) + 1) = (j : Int) + 1 := wrap_in (by omega) (by omega)
        have z18 := (Y1 n' (.inr rfl)).trans X3
        have z0 := (Y1 n (.inl (by omega))).trans m0'
        have z2 := (Y1 (n + 2) (.inl (by omega))).trans m2'
        have z4 := (Y1 (n + 4) (.inl (by omega))).trans mW'
        have nn3 := ne2 (show n < n3 by omega)
        refine Sat.reg (by kernel_rfl) ?_
        simp -dsimp [t6, t18, z18, z0, nn3]
        refine Sat.reg (by kernel_rfl) ?_
        simp -dsimp [t6, t11, t12, t13, t16, t122, t123, t124, W3]
        refine ⟨j + 1, ⟨by omega, by omega, fun L hL => ?_, fun L h1 h4 => ?_, by omega, ⟨rfl, rfl, rfl⟩, z2, z4, hg3.frame (fun L h1 h4 => by rw [upd_at, if_neg (by omega)]) (Nat.le_refl _)⟩, by omega⟩
        · rw [if_neg (by omega), Y1 L (.inl (by omega))]; exact hk2 L hL
        · rw [if_neg h4]; exact Y2 L h1 h4
      · have hc : j = 4 := by
          have : ¬ (j : Int) < 4 := by simpa using hc
          omega
        subst hc
        refine Sat.exit ?_
        simp -dsimp [t12, t16]
        exact ⟨hk, hfz, ln, hg⟩
  · rintro T h8 n8 ⟨t12, hk8, hf8, ln8, s, t16, hg⟩
    have hrc8 := hrc7.fz (h' := h8) fun L bb x y => by rw [hf8 L (hl7 L bb x) (by intro e; subst e; rw [g0] at x; cases x; cases y)]; exact x
    have hleg := legsTo_len a b safe rate lk.tool lk.block 4
    generalize legsTo a b safe rate lk.tool lk.block 4 = out at *
    obtain ⟨s', E, ha, hfr, hal, hal2, hg2⟩ := GS.appendAny hg hrc8.cells (motCells_length rest) (L := n8) (Nat.le_refl _) (by omega) (by omega)
    have hk9 : ∀ L, L < n → eff h8 E L = h L := fun L hL => by rw [hfr L (by omega)]; exact hk8 L hL
    rw [← motCells_append, ← List.length_append] at hg2
    have hlt9 : n ≤ allocs n8 E := by omega
    obtain ⟨A', c', e'⟩ := hg2.val
    refine Sat.sq ?_
    refine Sat.reg (by kernel_rfl) ?_
    simp -dsimp [t12, t16, ha, -eff, -allocs]
    generalize eff h8 E = h9 at *
    generalize allocs n8 E = n9 at *
    rcases GS.toRO hg2 with hro | ⟨L, bb, hb, hL1, hL2, hro⟩
    · refine Sat.ret ?_
      try simp -dsimp only [thenH_ret, blockA_ret, thenA_ret]
      refine RetQ.ret (r := .tuple #[s', .int .i64 0]) (by subst e'; rfl) ⟨hlt9, hk9, _, by rw [hrm], by rw [hrm]; exact hro⟩
    · refine Sat.freeze L hb ?_
      refine Sat.ret ?_
      try simp -dsimp only [thenH_ret, blockA_ret, thenA_ret]
      refine RetQ.ret (r := .tuple #[s', .int .i64 0]) (by subst e'; rfl) ⟨hlt9, fun L' hL' => by rw [upd_at, if_neg (by omega)]; exact hk9 L' hL', _, by rw [hrm], by rw [hrm]; exact hro⟩

end Go.Proofs.Ytoinimkmoojcoaa
/- Walks, part R3. -/
set_option maxRecDepth 100000
set_option maxHeartbeats 4000000
set_option linter.unusedSimpArgs false
set_option linter.unusedVariables false
namespace Go.Proofs.Ytoinimkmoojcoaa
open Go Go.Dm
attribute [local simp ↓] RunS_nil RunS_op RunS_guard RunT_nil RunT_op RunT_guard opS_call opD_call opS_move opD_move opS_assign opD_assign opS_pick opD_pick opS_nilCheck opD_nilCheck opS_fieldAddr opD_fieldAddr opS_indexAddr opD_indexAddr opS_load opD_load opS_store opD_store opS_alloc opD_alloc opS_box opD_box opS_build opD_build opS_buildSlice opD_buildSlice opS_field opD_field opS_extract opD_extract opS_makeFunc opD_makeFunc opS_slice opD_slice opS_binOp opD_binOp opS_unOp opD_unOp opS_convert opD_convert opS_index opD_index opS_len opD_len opS_append opD_append opS_max opD_max opS_min opD_min obind_some obind_none thenH_normal thenH_ret thenH_exit blockA_normal blockA_ret blockA_exit thenA_normal thenA_ret thenA_exit dstAt_mk dstL_zero dstL_succ
attribute [local simp] undef wantG_bool wantG_undef findO_some calleeS find putA ev closed3 closed2 closed1 closed0 pickA binF unF convF mxF eqNilA fastBin fastUn fastConv intBin argEnv resultsA resultsL resultA notTuple allocs eff
  loadO storeO allocO boxO sliceO indexO indexAddrA loadA storeA newA isAggT nilCheckA lenA evAll evParts aadd gen upd_at upd_upd Value.cells mxV Pairs apart readsS labOf putAt fieldA partA extractA makeFuncA evOpt boundOf sliceA Nat.add_assoc
attribute [local simp] bu107_z bu107_0_1 bu25_0_1_2 bu36_z bu36_0_1 bu36_0_1_2 bu36_0 bu38_z bu38_0_1_2_3_4 bu38_0_1_3 bu38_0_1_3_4 bu38_1_2 bu38_1_2_3 bu52_0_1_10 bu81_0_1 bs22_0_z bs22_1_0 bs22_2_0_1 bs39_1_0 bs39_7_0_1_2_3_4_5_6 bs95_4_0_1_2_3
attribute [local simp ↓] eql107 neq107 eql36 neq36 eql38 neq38 eql25 neq25
attribute [local simp] fa25_0 fa25_1 fa25_2 fa36_0 fa36_1 fa36_2 fa38_0 fa38_1 fa38_2 fa38_3 fa38_4 fa107_0 fa107_1 fa81_0 fa81_1 fa81_2 fa81_3 fa81_4 fa81_5 fa81_6 fa81_7 fa81_8 fa81_9 fa81_10 fa52_0 fa52_1 fa52_2 fa52_3 fa52_4 fa52_5 fa52_6 fa52_7 fa52_8 fa52_9 fa52_10 fa52_11 fa52_12
attribute [local simp] c22 c39 c29 z22 z39 c25 c38 c2 c3 c4 c36 c107 c30 z25 z38 z2 z3 z4 z36 z107 b38 b25 b107 h38 h25 h36 h107 g38 g25 g36 g107 Try.underlying25 Try.underlying38 Try.underlying2 Try.underlying3 Try.underlying4 Try.underlying36 Try.underlying22 Try.underlying39 Try.underlying29 Try.underlying81 Try.underlying107 Try.underlying30
attribute [local simp] mx mn
theorem Sat.joinF {P : Program} {N : Nat} {x y : Code} {T : TEnv} {h : Heap} {n : Nat} {Q : Exit → TEnv → Heap → Nat → Prop} (J : TEnv → Heap → Nat → Prop) (hx : Sat P N x T h n (thenA (fun T h n => J T h n ∨ ∃ L b, h L = some b ∧ J T (upd h L { b with own := false }) n) Q)) (hj : ∀ T h n, J T h n → Sat P N y T h n Q) : Sat P N (.seq x y) T h n Q :=
  Sat.join _ hx fun T h n hh => hh.elim (hj T h n) fun ⟨L, b, hb, hJ⟩ => Sat.freeze L hb (hj _ _ _ hJ)
abbrev u27_19 : List (Nat × Nat) := [(0, 10), (4, 10), (6, 10), (8, 10)]
abbrev u27_22 : List (Nat × Nat) := []
theorem w27 {h : Heap} {lv : Value} {l : List Mot} (hr : RO h 9 lv (motCells l) l.length) (few : l.length ≤ 1000000) (i : Int) (a : P3) (safe : Int) (n : Nat) :
    Dm.Spec Try.prog 27 [lv, .int .i64 i, a.v, .int .i64 safe] h n (restPost l i a safe h n) := by
  refine Spec.body Try.func27 rfl (by kernel_rfl) Try.ntmps27 (by rw [Try.results27]) (Nat.le_of_ble_eq_true rfl) ?_
  refine Sat.lt fun hlt => ?_
  obtain ⟨Ad, cd, rfl⟩ := hr.len
  have hk1 : ∀ L, L < n → upd h n ⟨[.int .i64 a.x, .int .i64 a.y, .int .i64 a.z], 36, 0, true⟩ L = h L := keep_upd (by omega) keep_refl
  have hl1 := lt_fresh (b := ⟨[.int .i64 a.x, .int .i64 a.y, .int .i64 a.z], 36, 0, true⟩) hlt
  refine Sat.sq ?_
  refine Sat.reg (by kernel_rfl) ?_
  simp -dsimp
  refine Sat.sq ?_
  refine Sat.sq ?_
  refine Sat.reg (by kernel_rfl) ?_
  by_cases hi0 : i < 0
  · have hm : restM l i a safe = ([], 1) := by simp [restM, hi0]
    simp -dsimp [hi0]
    refine Sat.cond (t := true) (by rfl) ?_
    refine Sat.sq ?_
    refine Sat.reg (by kernel_rfl) ?_
    simp -dsimp
    refine Sat.ret ?_
    try simp -dsimp only [thenH_ret, blockA_ret, thenA_ret]
    exact RetQ.ret (r := .tuple #[.slice none 0 0, .int .i64 1]) (by rfl) ⟨by omega, hk1, _, by rw [hm], by rw [hm]; exact RO.nil⟩
  by_cases hi1 : (l.length : Int) < i
  · have hm : restM l i a safe = ([], 1) := by simp [restM, hi1]
    simp -dsimp [hi0, hi1]
    refine Sat.cond (t := true) (by rfl) ?_
    refine Sat.sq ?_
    refine Sat.reg (by kernel_rfl) ?_
    simp -dsimp
    refine Sat.ret ?_
    try simp -dsimp only [thenH_ret, blockA_ret, thenA_ret]
    exact RetQ.ret (r := .tuple #[.slice none 0 0, .int .i64 1]) (by rfl) ⟨by omega, hk1, _, by rw [hm], by rw [hm]; exact RO.nil⟩
  simp -dsimp [hi0, hi1]
  refine Sat.cond (t := false) (by rfl) ?_
  refine Sat.skip ?_
  simp -dsimp
  have e0 : upd h n ⟨[.int .i64 a.x, .int .i64 a.y, .int .i64 a.z], 36, 0, true⟩ n = some ⟨[.int .i64 a.x, .int .i64 a.y, .int .i64 a.z], 36, 0, true⟩ := by rw [upd_at, if_pos rfl]
  generalize upd h n _ = h1 at *
  have hr1 : RO h1 9 (.slice Ad l.length cd) (motCells l) l.length := hr.fz fun L b x _ => by rw [hk1 L (hlt L b x)]; exact x
  refine Sat.sq ?_
  refine Sat.reg (by kernel_rfl) ?_
  simp -dsimp [e0]
  refine (w63 hr1 few (by omega) a _).useH ?_
  have hrm : restM l i a safe = if safe < a.z ∨ safe < (begM l i a).z ∨ safe < 1000 then ([], 1) else if a = begM l i a then (l.drop i.toNat, 0) else if (begM l i a).z < 1000 ∧ rateM l i = 0 then ([], 13) else
      (legsTo a (begM l i a) safe (rateM l i) (likeM l i).tool (likeM l i).block 4 ++ l.drop i.toNat, 0) := by simp only [restM]; rw [if_neg (by omega)]
  have hbe : l.length = 0 → begM l i a = a := fun h0 => by simp only [begM]; rw [if_neg (by omega), if_neg (by omega)]
  generalize begM l i a = b at *
  simp -dsimp
  have hk2 : ∀ L, L < n → upd h1 (n + 1) ⟨[.int .i64 b.x, .int .i64 b.y, .int .i64 b.z], 36, 0, true⟩ L = h L := keep_upd (by omega) hk1
  have f0 : upd h1 (n + 1) ⟨[.int .i64 b.x, .int .i64 b.y, .int .i64 b.z], 36, 0, true⟩ n = some ⟨[.int .i64 a.x, .int .i64 a.y, .int .i64 a.z], 36, 0, true⟩ := by rw [upd_at, if_neg (by omega)]; exact e0
  have f1 : upd h1 (n + 1) ⟨[.int .i64 b.x, .int .i64 b.y, .int .i64 b.z], 36, 0, true⟩ (n + 1) = some ⟨[.int .i64 b.x, .int .i64 b.y, .int .i64 b.z], 36, 0, true⟩ := by rw [upd_at, if_pos rfl]
  have hl2 := lt_fresh (b := ⟨[.int .i64 b.x, .int .i64 b.y, .int .i64 b.z], 36, 0, true⟩) hl1
  have hr2 : RO (upd h1 (n + 1) ⟨[.int .i64 b.x, .int .i64 b.y, .int .i64 b.z], 36, 0, true⟩) 9 (.slice Ad l.length cd) (motCells l) l.length := hr1.fz fun L b x _ => by rw [upd_at, if_neg (by have := hl1 L b x; omega)]; exact x
  generalize upd h1 (n + 1) _ = h2 at *
  refine Sat.join (fun T h' n' => find T 0 = some (.slice Ad l.length cd) ∧ find T 1 = some (.int .i64 i) ∧ find T 3 = some (.int .i64 safe) ∧ find T 6 = some (.pointer (some ⟨n, 0, none⟩)) ∧ find T 10 = some (.pointer (some ⟨n + 1, 0, none⟩)) ∧ h' = h2 ∧ n' = n + 2 ∧ ¬ (safe < a.z ∨ safe < b.z ∨ safe < 1000)) ?_ ?_
  · refine Sat.sq ?_
    refine Sat.reg (by kernel_rfl) ?_
    have good : (safe < a.z ∨ safe < b.z ∨ safe < 1000) → restM l i a safe = ([], 1) := fun hc => by rw [hrm, if_pos hc]
    by_cases c1 : safe < a.z
    · have hm := good (.inl c1)
      simp -dsimp [f0, c1]
      refine Sat.cond (t := true) (by rfl) ?_
      refine Sat.sq ?_
      refine Sat.reg (by kernel_rfl) ?_
      simp -dsimp
      refine Sat.ret ?_
      try simp -dsimp only [thenH_ret, blockA_ret, thenA_ret]
      exact RetQ.ret (r := .tuple #[.slice none 0 0, .int .i64 1]) (by rfl) ⟨by omega, hk2, _, by rw [hm], by rw [hm]; exact RO.nil⟩
    by_cases c2 : safe < b.z
    · have hm := good (.inr (.inl c2))
      simp -dsimp [f0, f1, c1, c2]
      refine Sat.cond (t := true) (by rfl) ?_
      refine Sat.sq ?_
      refine Sat.reg (by kernel_rfl) ?_
      simp -dsimp
      refine Sat.ret ?_
      try simp -dsimp only [thenH_ret, blockA_ret, thenA_ret]
      exact RetQ.ret (r := .tuple #[.slice none 0 0, .int .i64 1]) (by rfl) ⟨by omega, hk2, _, by rw [hm], by rw [hm]; exact RO.nil⟩
    by_cases c3 : safe < 1000
    · have hm := good (.inr (.inr c3))
      simp -dsimp [f0, f1, c1, c2, c3]
      refine Sat.cond (t := true) (by rfl) ?_
      refine Sat.sq ?_
      refine Sat.reg (by kernel_rfl) ?_
      simp -dsimp
      refine Sat.ret ?_
      try simp -dsimp only [thenH_ret, blockA_ret, thenA_ret]
      exact RetQ.ret (r := .tuple #[.slice none 0 0, .int .i64 1]) (by rfl) ⟨by omega, hk2, _, by rw [hm], by rw [hm]; exact RO.nil⟩
    simp -dsimp [f0, f1, c1, c2, c3]
    refine Sat.cond (t := false) (by rfl) ?_
    refine Sat.skip ?_
    simp -dsimp [c1, c2, c3]
  rintro T h3 n3 ⟨t0, t1, t3, t6, t10, rfl, rfl, hc⟩
  rw [if_neg hc] at hrm
  obtain ⟨sv, hsv, hrs⟩ := hr2.drop (i := i) (by omega) (by omega)
  have hdl : (l.drop i.toNat).length ≤ 1000000 := by simp; omega
  generalize l.drop i.toNat = rest at *
  obtain ⟨Ar, cr, rfl⟩ := hrs.len
  refine Sat.joinF (fun T h' n' => find T 0 = some (.slice Ad l.length cd) ∧ find T 1 = some (.int .i64 i) ∧ find T 3 = some (.int .i64 safe) ∧ find T 6 = some (.pointer (some ⟨n, 0, none⟩)) ∧ find T 10 = some (.pointer (some ⟨n + 1, 0, none⟩)) ∧ n + 3 ≤ n' ∧ (∀ L, L < n + 2 → h' L = h3 L) ∧ ∃ Ac cc, find T 11 = some (.slice Ac rest.length cc) ∧ RO h' 9 (.slice Ac rest.length cc) (motCells rest) rest.length) ?_ ?_
  · refine Sat.reg (by kernel_rfl) ?_
    by_cases hm0 : rest.length = 0
    · have hre : rest = [] := List.eq_nil_of_length_eq_zero hm0
      subst hre
      simp only [List.length_nil] at *
      simp -dsimp [t0, t1, t3, t6, t10, -sliceA, hsv, appendA]
      exact .inl ⟨fun L hL e => by omega, _, _, ⟨rfl, rfl⟩, rfl, _, _, rfl, fun h => (nomatch h), fun h => absurd h (by simp)⟩
    · have hx' : sliceCells Try.prog (upd h3 (n + 2) ⟨[], 38, 0, true⟩) 9 (.slice Ar rest.length cr) = some (motCells rest) := (hrs.fz fun L b x _ => by rw [upd_at, if_neg (by have := hl2 L b x; omega)]; exact x : RO (upd h3 (n + 2) ⟨[], 38, 0, true⟩) 9 (.slice Ar rest.length cr) (motCells rest) rest.length).cells
      have ha : appendA Try.prog (upd h3 (n + 2) ⟨[], 38, 0, true⟩) 22 (.slice (some ⟨n + 2, 0, none⟩) 0 1) (.slice Ar rest.length cr) (n + 3) = some (.slice (some ⟨n + 3, 0, none⟩) rest.length 11, some (n + 3, ⟨motCells rest, 38, 0, true⟩)) := by
        unfold appendA
        simp only [Try.underlying22, c38, if_pos (show 0 < 9 by omega), if_neg hm0, hx', z38, b38]
        have e0 : sliceCells Try.prog (upd h3 (n + 2) ⟨[], 38, 0, true⟩) 9 (.slice (some ⟨n + 2, 0, none⟩) 0 1) = some [] := by simp [sliceCells]
        rw [e0]
        simp
        omega
      simp -dsimp [t0, t1, t3, t6, t10, -sliceA, hsv, ha, -eff, -allocs, eff_at, allocs_at]
      have hml := motCells_length rest
      refine .inr ⟨n + 3, _, by rw [if_pos rfl], fun L hL => by rw [if_neg (by omega), if_neg (by omega), if_neg (by omega)], _, _, ⟨rfl, rfl⟩, hml, some ⟨n + 3, 0, none⟩, 11, rfl, fun h => (nomatch h), fun _ => ⟨⟨n + 3, 0, none⟩, ⟨motCells rest, 38, 0, false⟩, rfl, by rw [upd_at, if_pos rfl], rfl, rfl, by simp [hml], by simp [← hml]⟩⟩
  rintro T h4 p ⟨t0, t1, t3, t6, t10, hp, hs4, Ac, cc, t11, hrc⟩
  refine Sat.lt fun hlt4 => ?_
  have g0 := (hs4 n (by omega)).trans f0
  have g1 := (hs4 (n + 1) (by omega)).trans f1
  have hr4 : RO h4 9 (.slice Ad l.length cd) (motCells l) l.length := hr2.fz fun L b x _ => by rw [hs4 L (hl2 L b x)]; exact x
  have hk4 : ∀ L, L < n → h4 L = h L := fun L hL => by rw [hs4 L (by omega)]; exact hk2 L hL
  refine Sat.sq ?_
  refine Sat.sq ?_
  refine Sat.reg (by kernel_rfl) ?_
  simp -dsimp [t6, t10, g0, g1]
  refine Sat.ite rfl (fun hc => ?_) (fun hc => ?_)
  · have hc : a = b := by rw [P3.eq_iff]; simpa using hc
    rw [if_pos hc] at hrm
    refine Sat.sq ?_
    refine Sat.reg (by kernel_rfl) ?_
    simp -dsimp [t11]
    refine Sat.ret ?_
    try simp -dsimp only [thenH_ret, blockA_ret, thenA_ret]
    exact RetQ.ret (r := .tuple #[.slice Ac rest.length cc, .int .i64 0]) (by rfl) ⟨by omega, hk4, _, by rw [hrm], by rw [hrm]; exact hrc⟩
  have hab : ¬ a = b := by
    rw [P3.eq_iff]; simp at hc; omega
  have hpos : 0 < l.length := by
    rcases Nat.eq_zero_or_pos l.length with h0 | h0
    · exact absurd (hbe h0).symm hab
    · exact h0
  rw [if_neg hab] at hrm
  refine Sat.skip ?_
  simp -dsimp
  refine Sat.sq ?_
  refine Sat.reg (by kernel_rfl) ?_
  simp -dsimp [t0, t1]
  refine (w64 hr4 few (by omega) _).useH ?_
  have hlm0 : likeM l i = l[(min i ((l.length : Int) - 1)).toNat]! := by
    simp only [likeM]
    split
    · rw [show (min i ((l.length : Int) - 1)).toNat = i.toNat by omega]
    · try rw [if_pos hpos]
      rw [show (min i ((l.length : Int) - 1)).toNat = l.length - 1 by omega]
  generalize rateM l i = rate at *
  generalize likeM l i = lk at *
  simp -dsimp
  refine Sat.join (fun T h' n' => find T 0 = some (.slice Ad l.length cd) ∧ find T 1 = some (.int .i64 i) ∧ find T 3 = some (.int .i64 safe) ∧ find T 6 = some (.pointer (some ⟨n, 0, none⟩)) ∧ find T 10 = some (.pointer (some ⟨n + 1, 0, none⟩)) ∧ find T 11 = some (.slice Ac rest.length cc) ∧ find T 12 = some (.int .i64 rate) ∧ h' = h4 ∧ n' = p ∧ ¬ (b.z < 1000 ∧ rate = 0)) ?_ ?_
  · refine Sat.sq ?_
    refine Sat.reg (by kernel_rfl) ?_
    by_cases hz : b.z < 1000
    · by_cases hq : rate = 0
      · subst hq
        rw [if_pos ⟨hz, rfl⟩] at hrm
        simp -dsimp [t10, g1, hz]
        refine Sat.cond (t := true) (by rfl) ?_
        refine Sat.sq ?_
        refine Sat.reg (by kernel_rfl) ?_
        simp -dsimp
        refine Sat.ret ?_
        try simp -dsimp only [thenH_ret, blockA_ret, thenA_ret]
        exact RetQ.ret (r := .tuple #[.slice none 0 0, .int .i64 13]) (by rfl) ⟨by omega, hk4, _, by rw [hrm], by rw [hrm]; exact RO.nil⟩
      · simp -dsimp [t10, g1, hz, hq]
        refine Sat.ite rfl (fun hh => absurd (by simpa using hh) hq) (fun hh => ?_)
        refine Sat.skip ?_
        simp -dsimp [t0, t1, t3, t6, t10, t11, hq]
    · simp -dsimp [t10, g1, hz]
      refine Sat.cond (t := false) (by rfl) ?_
      refine Sat.skip ?_
      simp -dsimp [t0, t1, t3, t6, t10, t11, hz]
  rintro T h6 n6 ⟨t0, t1, t3, t6, t10, t11, t12, rfl, rfl, hnb⟩
  rw [if_neg hnb] at hrm
  obtain ⟨B, o, sp, bb, hB, hbo, am⟩ := hr4.mot (i := min i ((l.length : Int) - 1)) (by omega) (by omega)
  rw [← hlm0] at am
  have W : IntKind.i64.wrap ((l.length : Int) - 1) = (l.length : Int) - 1 := wrap_in (by omega) (by omega)
  have nB := ne2 (show B < n6 from hlt4 B bb hB)
  have nn0 := ne2 (show n < n6 by omega)
  have nn1 := ne2 (show n + 1 < n6 by omega)
  have nn00 := ne2 (show n < n6 + 1 by omega)
  have nn01 := ne2 (show n + 1 < n6 + 1 by omega)
  refine Sat.sq ?_
  refine Sat.reg (by kernel_rfl) ?_
  simp -dsimp [t0, t1, W, -indexAddrA, am.idx, ↓am.l38, hB, nB]
  refine Sat.sq ?_
  refine Sat.reg (by kernel_rfl) ?_
  simp -dsimp [t3, t6, t10, g0, g1, nn0, nn1]
  refine Sat.sq ?_
  refine Sat.reg (by kernel_rfl) ?_
  simp -dsimp
  refine Sat.sq ?_
  refine Sat.reg (by kernel_rfl) ?_
  simp -dsimp [t6, g0, nn0, nn1, nn00, nn01]
  have e3 : upd (upd (upd h6 n6 ⟨lk.cells, 38, 0, true⟩) (n6 + 1) ⟨wayC a b safe, 36, 0, true⟩) (n6 + 2) ⟨[.int .i64 a.x, .int .i64 a.y, .int .i64 a.z], 36, 0, true⟩ (n6 + 2) = some ⟨[.int .i64 a.x, .int .i64 a.y, .int .i64 a.z], 36, 0, true⟩ := by rw [upd_at, if_pos rfl]
  have e4 : upd (upd (upd h6 n6 ⟨lk.cells, 38, 0, true⟩) (n6 + 1) ⟨wayC a b safe, 36, 0, true⟩) (n6 + 2) ⟨[.int .i64 a.x, .int .i64 a.y, .int .i64 a.z], 36, 0, true⟩ (n6 + 1) = some ⟨wayC a b safe, 36, 0, true⟩ := by rw [upd_at, if_neg (by omega), upd_at, if_pos rfl]
  have e5 : upd (upd (upd h6 n6 ⟨lk.cells, 38, 0, true⟩) (n6 + 1) ⟨wayC a b safe, 36, 0, true⟩) (n6 + 2) ⟨[.int .i64 a.x, .int .i64 a.y, .int .i64 a.z], 36, 0, true⟩ n6 = some ⟨lk.cells, 38, 0, true⟩ := by rw [upd_at, if_neg (by omega), upd_at, if_neg (by omega), upd_at, if_pos rfl]
  have hk7 : ∀ L, L < n6 → upd (upd (upd h6 n6 ⟨lk.cells, 38, 0, true⟩) (n6 + 1) ⟨wayC a b safe, 36, 0, true⟩) (n6 + 2) ⟨[.int .i64 a.x, .int .i64 a.y, .int .i64 a.z], 36, 0, true⟩ L = h6 L := fun L hL => by rw [upd_at, if_neg (by omega), upd_at, if_neg (by omega), upd_at, if_neg (by omega)]
  have hl7 := lt_fresh (b := ⟨[.int .i64 a.x, .int .i64 a.y, .int .i64 a.z], 36, 0, true⟩) (lt_fresh (b := ⟨wayC a b safe, 36, 0, true⟩) (lt_fresh (b := ⟨lk.cells, 38, 0, true⟩) hlt4))
  dsimp only [Mot.cells] at e3 e4 e5 hk7 hl7
  generalize upd (upd (upd h6 n6 _) _ _) _ _ = h7 at *
  have hrc7 : RO h7 9 (.slice Ac rest.length cc) (motCells rest) rest.length := hrc.fz fun L b x _ => by rw [hk7 L (hlt4 L b x)]; exact x
  have hk7' : ∀ L, L < n → h7 L = h L := fun L hL => by rw [hk7 L (by omega)]; exact hk4 L hL
  refine Sat.join (fun T h' n' => find T 11 = some (.slice Ac rest.length cc) ∧ (∀ L, L < n → h' L = h L) ∧ (∀ L, L < n6 → h' L = h7 L) ∧ n6 + 3 ≤ n' ∧ ∃ s, find T 15 = some s ∧ GS h' 38 9 s (motCells (legsTo a b safe rate lk.tool lk.block 4)) (legsTo a b safe rate lk.tool lk.block 4).length (n6 + 3) n') ?_ ?_
  · refine Sat.sq ?_
    refine Sat.reg (by kernel_rfl) ?_
    simp -dsimp
    refine Sat.block ?_
    refine Sat.loop (ι := Nat) (fun j T h' n' => (find T 11 = some (.slice Ac rest.length cc) ∧ find T 12 = some (.int .i64 rate) ∧ find T 13 = some (.pointer (some ⟨n6, 0, none⟩)) ∧ find T 14 = some (.slice (some ⟨n6 + 1, 0, none⟩) 4 1) ∧ find T 16 = some (.pointer (some ⟨n6 + 2, 0, none⟩)) ∧ find T 17 = some (.int .i64 j)) ∧
      j ≤ 4 ∧ (∀ L, L < n → h' L = h L) ∧ (∀ L, L < n6 → h' L = h7 L) ∧ n6 + 3 ≤ n' ∧ h' (n6 + 2) = some ⟨[.int .i64 (ptR a b safe j).x, .int .i64 (ptR a b safe j).y, .int .i64 (ptR a b safe j).z], 36, 0, true⟩ ∧ h' n6 = some ⟨lk.cells, 38, 0, true⟩ ∧ h' (n6 + 1) = some ⟨wayC a b safe, 36, 0, true⟩ ∧
      ∃ s, find T 15 = some s ∧ GS h' 38 9 s (motCells (legsTo a b safe rate lk.tool lk.block j)) (legsTo a b safe rate lk.tool lk.block j).length (n6 + 3) n') (fun j => 4 - j) 0 ?_ ?_
    · exact ⟨⟨by simp [find, t11], by simp [find, t12], by simp [find], by simp [find], by simp [find], by simp [find]⟩, by omega, hk7', fun _ _ => rfl, by omega, by simpa [ptR] using e3, e5, e4, _, by simp [find], .nil⟩
    · rintro j T h' n' ⟨⟨t11, t12, t13, t14, t16, t17⟩, j4, hk, hfz, ln, m0, m2, mW, s, t15, hg⟩
      refine Sat.lt fun hltj => ?_
      refine Sat.sq ?_
      refine Sat.sq ?_
      refine Sat.reg (by kernel_rfl) ?_
      simp -dsimp [t17]
      refine Sat.ite rfl (fun hc => ?_) (fun hc => ?_)
      · have hc : j < 4 := by
          have : (j : Int) < 4 := by simpa using hc
          omega
        have hw := fun (h'' : Heap) (hh : h'' (n6 + 1) = some ⟨wayC a b safe, 36, 0, true⟩) => way_at hh j hc
        have hj4 : (j : Int) < 4 := by omega
        refine Sat.skip ?_
        simp -dsimp
        have x0 := ne2 (show n6 < n' by omega)
        have x1 := ne2 (show n6 + 1 < n' by omega)
        have x2 := ne2 (show n6 + 2 < n' by omega)
        refine Sat.sq ?_
        refine Sat.block ?_
        refine Sat.sq ?_
        refine Sat.drw u27_19 mixed (by kernel_rfl) (by kernel_rfl) (by kernel_rfl) (by kernel_rfl) ?_
        simp -dsimp [t13, t14, t16, t17, Try.underlying95, hj4, hc, ↓hw, mW, m0, m2, Mot.cells, x0, x1, x2]
        have X2 : ∀ L, L < n' → upd h' n' ⟨(legMot a b safe rate lk.tool lk.block j).cells, 38, 0, true⟩ L = h' L := fun L hL => by
          rw [upd_at, if_neg (by omega)]
        have X4 : upd h' n' ⟨(legMot a b safe rate lk.tool lk.block j).cells, 38, 0, true⟩ n' = some ⟨(legMot a b safe rate lk.tool lk.block j).cells, 38, 0, true⟩ := by
          rw [upd_at, if_pos rfl]
        refine Sat.join (fun T h'' n'' => (find T 11 = some (.slice Ac rest.length cc) ∧ find T 12 = some (.int .i64 rate) ∧ find T 13 = some (.pointer (some ⟨n6, 0, none⟩)) ∧ find T 14 = some (.slice (some ⟨n6 + 1, 0, none⟩) 4 1) ∧ find T 16 = some (.pointer (some ⟨n6 + 2, 0, none⟩)) ∧ find T 17 = some (.int .i64 j)) ∧
          find T 15 = some s ∧ find T 18 = some (.pointer (some ⟨n', 0, none⟩)) ∧
          h'' = upd h' n' ⟨(legMot a b safe rate lk.tool lk.block j).cells, 38, 0, true⟩ ∧ n'' = n' + 1) ?_ ?_
        · refine Sat.sq ?_
          refine Sat.reg (by kernel_rfl) ?_
          simp -dsimp [t17]
          refine Sat.ite rfl (fun hz => ?_) (fun hz => ?_)
          · have hz : j = 3 := by
              have : (j : Int) = 3 := by simpa using hz
              omega
            have hl : legMot a b safe rate lk.tool lk.block j = ⟨(ptR a b safe j).x, (ptR a b safe j).y, (ptR a b safe j).z, (ptR a b safe (j + 1)).x, (ptR a b safe (j + 1)).y, (ptR a b safe (j + 1)).z, rate, lk.tool, lk.block⟩ := by simp only [legMot, if_pos hz]
            rw [hl]
            refine Sat.reg (by kernel_rfl) ?_
            simp -dsimp [t11, t12, t13, t14, t15, t16, t17, Mot.cells]
          · have hz : ¬ j = 3 := by
              have : ¬ (j : Int) = 3 := by simpa using hz
              omega
            have hl : legMot a b safe rate lk.tool lk.block j = ⟨(ptR a b safe j).x, (ptR a b safe j).y, (ptR a b safe j).z, (ptR a b safe (j + 1)).x, (ptR a b safe (j + 1)).y, (ptR a b safe (j + 1)).z, 0, lk.tool, lk.block⟩ := by simp only [legMot, if_neg hz]
            rw [hl]
            refine Sat.skip ?_
            simp -dsimp [t11, t12, t13, t14, t15, t16, t17, Mot.cells]
        rintro T2 h2 n2 ⟨⟨t11, t12, t13, t14, t16, t17⟩, t15, t18, hh2, rfl⟩
        rw [← hh2] at X2 X4
        have hlegs : legsTo a b safe rate lk.tool lk.block (j + 1) = legsTo a b safe rate lk.tool lk.block j ++ (if ptR a b safe j = ptR a b safe (j + 1) then [] else [legMot a b safe rate lk.tool lk.block j]) := rfl
        have hleg := legsTo_len a b safe rate lk.tool lk.block j
        have hg2 : GS h2 38 9 s (motCells (legsTo a b safe rate lk.tool lk.block j)) (legsTo a b safe rate lk.tool lk.block j).length (n6 + 3) n' := hg.frame (fun L h1 h3 => X2 L h3) (Nat.le_refl _)
        generalize legMot a b safe rate lk.tool lk.block j = lm at *
        have m0' := (X2 (n6 + 2) (by omega)).trans m0
        have m2' := (X2 n6 (by omega)).trans m2
        have mW' := (X2 (n6 + 1) (by omega)).trans mW
        have hk2 : ∀ L, L < n → h2 L = h L := fun L hL => by rw [X2 L (by omega)]; exact hk L hL
        have hfz2 : ∀ L, L < n6 → h2 L = h7 L := fun L h1 => (X2 L (by omega)).trans (hfz L h1)
        clear hh2
        refine Sat.join (fun T h'' n'' => (find T 11 = some (.slice Ac rest.length cc) ∧ find T 12 = some (.int .i64 rate) ∧ find T 13 = some (.pointer (some ⟨n6, 0, none⟩)) ∧ find T 14 = some (.slice (some ⟨n6 + 1, 0, none⟩) 4 1) ∧ find T 16 = some (.pointer (some ⟨n6 + 2, 0, none⟩)) ∧ find T 17 = some (.int .i64 j)) ∧
          (∀ L, L < n6 + 3 → h'' L = h2 L) ∧ n' + 1 ≤ n'' ∧ ∃ s, find T 15 = some s ∧ GS h'' 38 9 s (motCells (legsTo a b safe rate lk.tool lk.block (j + 1))) (legsTo a b safe rate lk.tool lk.block (j + 1)).length (n6 + 3) n'') ?_ ?_
        · refine Sat.sq ?_
          refine Sat.drw u27_22 mixed (by kernel_rfl) (by kernel_rfl) (by kernel_rfl) (by kernel_rfl) ?_
          simp -dsimp [t14, t16, t17, Try.underlying95, hj4, hc, ↓hw, mW', m0']
          refine Sat.ite rfl (fun hz => ?_) (fun hz => ?_)
          · have hz : ¬ ptR a b safe j = ptR a b safe (j + 1) := by
              rw [P3.eq_iff]
              simp only [Bool.or_eq_true, Bool.not_eq_true', decide_eq_false_iff_not] at hz
              omega
            rw [hlegs, if_neg hz, motCells_append, List.length_append, List.length_singleton, show motCells [lm] = lm.cells by simp [motCells]]
            refine Sat.reg (by kernel_rfl) ?_
            have hg3 : GS (upd h2 (n' + 1) ⟨lm.cells, 38, 0, true⟩) 38 9 s (motCells (legsTo a b safe rate lk.tool lk.block j)) (legsTo a b safe rate lk.tool lk.block j).length (n6 + 3) n' := hg2.frame (fun L h1 h3 => by rw [upd_at, if_neg (by omega)]) (Nat.le_refl _)
            obtain ⟨s', E, ha, hfr, hal, hal2, hg5⟩ := hg3.append (P := Try.prog) (t := 22) (L := n' + 2) (B := n' + 1) (xs := lm.cells) (bo := true) (by' := 72) Try.underlying22 c38 b38 z38 rfl (by omega) (by omega) (by rw [upd_at, if_pos rfl]) rfl (by omega) (by omega) (by omega)
            have Y1 : ∀ L, L < n6 + 3 → eff (upd h2 (n' + 1) ⟨lm.cells, 38, 0, true⟩) E L = h2 L := fun L hL => by
              rw [hfr _ (by omega), upd_at, if_neg (by omega)]
            dsimp only [Mot.cells] at ha hg5 Y1
            simp -dsimp [t11, t12, t13, t14, t15, t16, t17, t18, X4, Mot.cells, ha, -eff, -allocs]
            exact ⟨Y1, by omega, hg5⟩
          · have hz : ptR a b safe j = ptR a b safe (j + 1) := by
              rw [P3.eq_iff]
              simp only [Bool.or_eq_false_iff, Bool.not_eq_false', decide_eq_true_eq] at hz
              omega
            rw [hlegs, if_pos hz, List.append_nil]
            refine Sat.skip ?_
            simp -dsimp [t11, t12, t13, t14, t15, t16, t17]
            exact hg2.frame (fun _ _ _ => rfl) (by omega)
        rintro T3 h3 n3 ⟨⟨t11, t12, t13, t14, t16, t17⟩, Y1, ln3, s, t15, hg3⟩
        have W3 : IntKind.i64.wrap ((j : Int) + 1) = (j : Int) + 1 := wrap_in (by omega) (by omega)
        have z0 := (Y1 (n6 + 2) (by omega)).trans m0'
        have z2 := (Y1 n6 (by omega)).trans m2'
        have z4 := (Y1 (n6 + 1) (by omega)).trans mW'
        have nn3 := ne2 (show n6 + 2 < n3 by omega)
        refine Sat.reg (by kernel_rfl) ?_
        simp -dsimp [t14, t16, t17, Try.underlying95, hj4, hc, ↓hw, z4, z0, nn3]
        refine Sat.reg (by kernel_rfl) ?_
        simp -dsimp [t11, t12, t13, t14, t15, t16, t17, W3]
        refine ⟨j + 1, ⟨by omega, by omega, fun L hL => ?_, fun L h1 => ?_, by omega, ⟨rfl, rfl, rfl⟩, z2, z4, hg3.frame (fun L h1 h4 => by rw [upd_at, if_neg (by omega)]) (Nat.le_refl _)⟩, by omega⟩
        · rw [if_neg (by omega), Y1 L (by omega)]; exact hk2 L hL
        · rw [if_neg (by omega), Y1 L (by omega)]; exact hfz2 L h1
      · have hc : j = 4 := by
          have : ¬ (j : Int) < 4 := by simpa using hc
          omega
        subst hc
        refine Sat.exit ?_
        simp -dsimp [t11, t15]
        exact ⟨hk, hfz, ln, hg⟩
  · rintro T h8 n8 ⟨t12, hk8, hf8, ln8, s, t16, hg⟩
    have hrc8 := hrc7.fz (h' := h8) fun L bb x y => by
      by_cases hL : L < n6
      · rw [hf8 L hL]; exact x
      · exfalso
        have h3 := hl7 L bb x
        rcases (show L = n6 ∨ L = n6 + 1 ∨ L = n6 + 2 by omega) with e | e | e
        · subst e; rw [e5] at x; cases x; cases y
        · subst e; rw [e4] at x; cases x; cases y
        · subst e; rw [e3] at x; cases x; cases y
    have hleg := legsTo_len a b safe rate lk.tool lk.block 4
    generalize legsTo a b safe rate lk.tool lk.block 4 = out at *
    obtain ⟨s', E, ha, hfr, hal, hal2, hg2⟩ := GS.appendAny hg hrc8.cells (motCells_length rest) (L := n8) (Nat.le_refl _) (by omega) (by omega)
    have hk9 : ∀ L, L < n → eff h8 E L = h L := fun L hL => by rw [hfr L (by omega)]; exact hk8 L hL
    rw [← motCells_append, ← List.length_append] at hg2
    have hlt9 : n ≤ allocs n8 E := by omega
    obtain ⟨A', c', e'⟩ := hg2.val
    refine Sat.sq ?_
    refine Sat.reg (by kernel_rfl) ?_
    simp -dsimp [t12, t16, ha, -eff, -allocs]
    generalize eff h8 E = h9 at *
    generalize allocs n8 E = n9 at *
    rcases GS.toRO hg2 with hro | ⟨L, bb, hb, hL1, hL2, hro⟩
    · refine Sat.ret ?_
      try simp -dsimp only [thenH_ret, blockA_ret, thenA_ret]
      refine RetQ.ret (r := .tuple #[s', .int .i64 0]) (by subst e'; rfl) ⟨hlt9, hk9, _, by rw [hrm], by rw [hrm]; exact hro⟩
    · refine Sat.freeze L hb ?_
      refine Sat.ret ?_
      try simp -dsimp only [thenH_ret, blockA_ret, thenA_ret]
      refine RetQ.ret (r := .tuple #[s', .int .i64 0]) (by subst e'; rfl) ⟨hlt9, fun L' hL' => by rw [upd_at, if_neg (by omega)]; exact hk9 L' hL', _, by rw [hrm], by rw [hrm]; exact hro⟩
attribute [local simp] Try.underlying53 c53
/-- ControllerRestart, walked. -/
theorem w5 {h : Heap} {lv : Value} {l : List Mot} (hr : RO h 9 lv (motCells l) l.length) (few : l.length ≤ 9223372036854775807) (i : Int) (a q : P3) (n : Nat) :
    Dm.Spec Try.prog 5 [lv, .int .i64 i, .agg #[.int .i64 a.x, .int .i64 a.y, .int .i64 a.z, .int .i64 q.x, .int .i64 q.y, .int .i64 q.z]] h n fun r _ _ => r = .bool true := by
  refine Spec.body Try.func5 rfl (by kernel_rfl) Try.ntmps5 (by rw [Try.results5]) (Nat.le_of_ble_eq_true rfl) ?_
  refine Sat.lt fun hlt => ?_
  obtain ⟨Ad, cd, rfl⟩ := hr.len
  have hl1 := lt_fresh (b := ⟨[.int .i64 a.x, .int .i64 a.y, .int .i64 a.z, .int .i64 q.x, .int .i64 q.y, .int .i64 q.z], 53, 0, true⟩) hlt
  have hB : upd h n ⟨[.int .i64 a.x, .int .i64 a.y, .int .i64 a.z, .int .i64 q.x, .int .i64 q.y, .int .i64 q.z], 53, 0, true⟩ n = some ⟨[.int .i64 a.x, .int .i64 a.y, .int .i64 a.z, .int .i64 q.x, .int .i64 q.y, .int .i64 q.z], 53, 0, true⟩ := by rw [upd_at, if_pos rfl]
  have hr1 : RO (upd h n ⟨[.int .i64 a.x, .int .i64 a.y, .int .i64 a.z, .int .i64 q.x, .int .i64 q.y, .int .i64 q.z], 53, 0, true⟩) 9 (.slice Ad l.length cd) (motCells l) l.length := hr.fz fun L b x _ => by rw [upd_at, if_neg (by have := hlt L b x; omega)]; exact x
  refine Sat.sq ?_
  refine Sat.reg (by kernel_rfl) ?_
  simp -dsimp
  generalize upd h n _ = h1 at *
  refine Sat.sq ?_
  refine Sat.sq ?_
  refine Sat.reg (by kernel_rfl) ?_
  simp -dsimp
  refine w12.useH ?_
  simp -dsimp
  refine Sat.ite rfl (fun hc => ?_) (fun hc => ?_)
  · refine Sat.sq ?_
    refine Sat.reg (by kernel_rfl) ?_
    simp -dsimp
    refine w12.useH ?_
    simp -dsimp
    refine Sat.ret ?_
    try simp -dsimp only [thenH_ret, blockA_ret, thenA_ret]
    exact RetQ.ret (r := .bool true) (by rfl) rfl
  have hc : l.length ≤ 20 := by
    have : ¬ (20 : Int) < l.length := by simpa using hc
    omega
  refine Sat.skip ?_
  simp -dsimp
  refine Sat.sq ?_
  refine Sat.reg (by kernel_rfl) ?_
  simp -dsimp [hB]
  refine (w26 hr1 (by omega) i a q.z _).onH ?_
  rintro r h2 n2 ⟨hn2, hk2, s, rfl, ro2⟩
  have hB2 := (hk2 n (by omega)).trans hB
  have hr2 : RO h2 9 (.slice Ad l.length cd) (motCells l) l.length := hr1.fz fun L b x _ => by rw [hk2 L (hl1 L b x)]; exact x
  simp -dsimp
  refine Sat.lt fun hl2 => ?_
  refine Sat.sq ?_
  refine Sat.reg (by kernel_rfl) ?_
  simp -dsimp [hB2]
  refine (w27 hr2 (by omega) i a q.z _).onH ?_
  rintro r h3 n3 ⟨hn3, hk3, s3, rfl, ro3⟩
  have ro2' : RO h3 9 s (motCells (restM l i a q.z).1) (restM l i a q.z).1.length := ro2.fz fun L b x _ => by rw [hk3 L (hl2 L b x)]; exact x
  simp -dsimp
  refine Sat.sq ?_
  refine Sat.reg (by kernel_rfl) ?_
  simp -dsimp
  refine (w25 ro2' ro3 (by
    unfold restM; split
    · simp
    · simp only
      split
      · simp
      · split
        · simp; omega
        · split
          · simp
          · have := legsTo_len a (begM l i a) q.z (rateM l i) (likeM l i).tool (likeM l i).block 4
            simp; omega) _).useH ?_
  simp -dsimp
  refine Sat.ret ?_
  try simp -dsimp only [thenH_ret, blockA_ret, thenA_ret]
  exact RetQ.ret (r := .bool true) (by rfl) rfl

end Go.Proofs.Ytoinimkmoojcoaa
/- ControllerRestart returns true for every input, and leaves its arguments as they were. -/
set_option maxRecDepth 100000
set_option linter.unusedSimpArgs false
set_option linter.unusedVariables false
namespace Go.Proofs.Ytoinimkmoojcoaa
open Go Go.Dm Go.ChangeShapes Go.WideShapes Go.ChangeAt Go.RowKit
theorem own : ownKnob Try.prog.godebug = none := by kernel_rfl
theorem laidOut : laidOutB Try.prog = true := by kernel_rfl
/-- Two positions in a row. -/
theorem two_in {H : Type} {enc : TypeId × Value → H} {w : World} {base : Nat} {spare : Nat → Bool} {held : Bool} {v : Value} {d : DataW H} {p : List MemPlace} (hv : ∃ cs, v = .agg cs) (hk : DataW.Trod enc Try.prog w base spare held 53 v d p) :
    ∃ a q : P3, v = .agg #[.int .i64 a.x, .int .i64 a.y, .int .i64 a.z, .int .i64 q.x, .int .i64 q.y, .int .i64 q.z] := by
  obtain ⟨cs, rfl⟩ := hv
  obtain ⟨fuel, hf⟩ := hk
  obtain ⟨xs, n, _, _, hl, hxl, hx⟩ := DataW.trod_array Try.underlying53 hf
  rw [c53] at hl
  simp only [c36] at hx
  have g : ∀ i, i < 2 → ∃ y, xs[i]? = some y := fun i hi => ⟨xs[i], List.getElem?_eq_getElem (by omega)⟩
  obtain ⟨y0, e0⟩ := g 0 (by omega)
  obtain ⟨y1, e1⟩ := g 1 (by omega)
  have f0 := hx 0 (by omega)
  have f1 := hx 1 (by omega)
  rw [e0] at f0; rw [e1] at f1
  obtain ⟨a, b, c, ha, _⟩ := trod_p3 f0
  obtain ⟨a', b', c', hb, _⟩ := trod_p3 f1
  obtain ⟨l⟩ := cs
  simp only [Value.cells] at hl ha hb
  match l, hl with
  | [u0, u1, u2, u3, u4, u5], _ =>
    simp at ha hb
    obtain ⟨rfl, rfl, rfl⟩ := ha
    obtain ⟨rfl, rfl, rfl⟩ := hb
    exact ⟨⟨a, b, c⟩, ⟨a', b', c'⟩, rfl⟩
theorem lifted5 (os : Os) (started : os.Started) (H : Type) (enc : TypeId × Value → H) :
    ReturnsInHanded {} Try.checked os 5 .any (Rows.controllerRestartSpec.pre6 enc Try.prog Try.f5 Rows.controllerRestartRow.domain false) (Rows.controllerRestartSpec.post enc Try.prog Try.f5 false true false false) := by
  refine returnsInHanded_of_change (C := Try.checked) own started (by kernel_rfl) Try.func5
    (ChangeSpec.witness6 (enc := enc) (C := Try.checked) false ⟨#[], #[.slice none 0 0, .int .i64 0, .agg #[.int .i64 0, .int .i64 0, .int .i64 0, .int .i64 0, .int .i64 0, .int .i64 0]], []⟩ 8 (by kernel_rfl) (by kernel_rfl) (by kernel_rfl) (by kernel_rfl)) ?_
  intro W base args ds gs before hval0 hW hcnd _
  have hval : ∀ (j : Nat) t v, Try.f5.params[j]? = some t → args[j]? = some v → Value.okWide Try.prog W .any base t v := hval0
  have hW' := hW
  obtain ⟨p, q, hA0, hV, rfl, hfz, hnd⟩ := hW
  have hA : DataW.TrodAll enc Try.prog W 0 (fun _ => true) true Try.f5.params.toList args.toList ds p := hA0
  rw [Try.params5] at hA hval
  obtain ⟨v0, vs0, d0, ds0, p0, q0, hargs, rfl, rfl, h0, r0⟩ := trodAll_cons hA
  obtain ⟨v1, vs1, d1, ds1, p1, q1, rfl, rfl, rfl, h1, r1⟩ := trodAll_cons r0
  obtain ⟨v2, vs2, d2, ds2, p2, q2, rfl, rfl, rfl, h2, r2⟩ := trodAll_cons r1
  obtain ⟨rfl, rfl, rfl⟩ := trodAll_nil r2
  obtain rfl : args = #[v0, v1, v2] := by cases args; simp_all
  obtain ⟨rfl, rfl⟩ := trodVars_none hV
  obtain ⟨a0, len0, cap0, rfl⟩ := okWide_slice Try.underlying22 (hval 0 22 v0 rfl rfl)
  have agg2 : ∃ cs, v2 = .agg cs := okWide_arr Try.underlying53 (hval 2 53 v2 rfl rfl)
  have lt0 : ∀ x ∈ p0, x.block < W.heap.size := by obtain ⟨m, hm⟩ := h0; exact DataW.trod_lt m _ _ _ hm
  have lt2 : ∀ x ∈ p2, x.block < W.heap.size := by obtain ⟨m, hm⟩ := h2; exact DataW.trod_lt m _ _ _ hm
  obtain ⟨ix, rfl, rfl, rfl, wx⟩ := open_int Try.underlying3 (hval 1 3 v1 rfl rfl) h1
  clear hA0 hval0
  obtain ⟨ms, lv, g1, m1, n1, E1, _, _, _, q0, ro1, fit, few⟩ := mots_in (Ent.nil W) h0
  obtain ⟨a, b, rfl⟩ := two_in agg2 h2
  refine ((w5 ro1 few ix a b n1).law E1 ⟨_, Try.func5, by kernel_rfl, by kernel_rfl⟩ (args := [.slice a0 len0 cap0, .int .i64 ix, _]) (.cons q0 (.cons (VR3.refl rfl) (.cons (VR3.refl rfl) .nil)))).mono fun e W' ⟨he, bel⟩ => ?_
  subst he
  exact ⟨_, rfl, _, _, _, [], _, [], hW', trodAll_mk1 (shut_bool Try.underlying4 _), (trodAll_cons_mk (Below.trod laidOut (by kernel_rfl) (of_decide_eq_true (by kernel_rfl)) h0 bel lt0) (trodAll_cons_mk (shut_int Try.underlying3 wx) (trodAll_cons_mk (Below.trod laidOut (by kernel_rfl) (of_decide_eq_true (by kernel_rfl)) h2 bel lt2) trodAll_mk0))), rfl, bel.frame _, fun h => by cases h⟩
theorem over5 : Rows.controllerRestartRow.holds Try.pinned (OpenSpec.ofChange Rows.controllerRestartSpec) :=
  OpenClaim.holds_of_wide 5 Try.f5 rfl rfl rfl rfl rfl rfl rfl ⟨rfl, rfl, rfl, rfl, rfl⟩ rfl rfl rfl rfl rfl (by kernel_rfl) Try.func5 (by kernel_rfl)
    (of_decide_eq_true (by kernel_rfl)) (by unfold Func.isWrapper; first | (rw [if_pos (by decide +kernel)]; kernel_rfl) | (rw [if_neg (by decide +kernel)]; exact ⟨rfl, rfl⟩))
    (fun os started H enc _ => lifted5 os started H enc)
/-- THE STATEMENT. -/
theorem controllerRestart : Rows.ControllerRestartSaid := over5
#print axioms controllerRestart
end Go.Proofs.Ytoinimkmoojcoaa
