/- Walks, part B10. -/
import Derived.Test.YtoinimkmoojcoaaG5
set_option maxRecDepth 100000
set_option maxHeartbeats 4000000
set_option linter.unusedSimpArgs false
set_option linter.unusedVariables false
namespace Go.Proofs.Ytoinimkmoojcoaa
open Go Go.Dm
attribute [local simp ↓] RunS_nil RunS_op RunS_guard RunT_nil RunT_op RunT_guard opS_call opD_call opS_move opD_move opS_assign opD_assign opS_pick opD_pick opS_nilCheck opD_nilCheck opS_fieldAddr opD_fieldAddr opS_indexAddr opD_indexAddr opS_load opD_load opS_store opD_store opS_alloc opD_alloc opS_box opD_box opS_build opD_build opS_buildSlice opD_buildSlice opS_field opD_field opS_extract opD_extract opS_makeFunc opD_makeFunc opS_slice opD_slice opS_binOp opD_binOp opS_unOp opD_unOp opS_convert opD_convert opS_index opD_index opS_len opD_len opS_append opD_append opS_max opD_max opS_min opD_min obind_some obind_none thenH_normal thenH_ret thenH_exit blockA_normal blockA_ret blockA_exit thenA_normal thenA_ret thenA_exit dstAt_mk dstL_zero dstL_succ
attribute [local simp] undef wantG_bool wantG_undef findO_some calleeS find putA ev closed3 closed2 closed1 closed0 pickA binF unF convF mxF eqNilA fastBin fastUn fastConv intBin argEnv resultsA resultsL resultA notTuple allocs eff
  loadO storeO allocO boxO sliceO indexO indexAddrA loadA storeA newA isAggT nilCheckA lenA evAll evParts aadd gen upd_at upd_upd Value.cells mxV Pairs apart readsS labOf putAt fieldA partA extractA makeFuncA evOpt boundOf sliceA Nat.add_assoc
attribute [local simp] bu107_z bu107_0_1 bu25_0_1_2 bu36_z bu36_0_1 bu36_0_1_2 bu36_0 bu38_z bu38_0_1_2_3_4 bu38_0_1_3 bu38_0_1_3_4 bu38_1_2 bu38_1_2_3 bu52_0_1_10 bu81_0_1 bs22_0_z bs22_1_0 bs22_2_0_1 bs39_1_0 bs39_7_0_1_2_3_4_5_6 bs95_4_0_1_2_3
attribute [local simp ↓] eql107 neq107 eql36 neq36 eql38 neq38 eql25 neq25
attribute [local simp] fa25_0 fa25_1 fa25_2 fa36_0 fa36_1 fa36_2 fa38_0 fa38_1 fa38_2 fa38_3 fa38_4 fa107_0 fa107_1 fa81_0 fa81_1 fa81_2 fa81_3 fa81_4 fa81_5 fa81_6 fa81_7 fa81_8 fa81_9 fa81_10 fa52_0 fa52_1 fa52_2 fa52_3 fa52_4 fa52_5 fa52_6 fa52_7 fa52_8 fa52_9 fa52_10 fa52_11 fa52_12
attribute [local simp] c22 c39 c29 z22 z39 c25 c38 c2 c3 c4 c36 c107 c30 z25 z38 z2 z3 z4 z36 z107 b38 b25 b107 h38 h25 h36 h107 g38 g25 g36 g107 Try.underlying25 Try.underlying38 Try.underlying2 Try.underlying3 Try.underlying4 Try.underlying36 Try.underlying22 Try.underlying39 Try.underlying29 Try.underlying81 Try.underlying107 Try.underlying30
attribute [local simp] mx mn
theorem w29 {h : Heap} {C Lp : Nat} {s : CS} {mv pl pv : Value} (hc : CRepV h C Lp s mv pl pv) (n : Nat) (hCL : Lp < n) :
    Dm.Spec Try.prog 29 [pC C] h n fun r' h' n' => r' = .tuple #[] ∧ CPost h n C Lp { s with held := false } mv h' n' := by
  refine Spec.body Try.func29 rfl (by kernel_rfl) Try.ntmps29 (by rw [Try.results29]) (Nat.le_of_ble_eq_true rfl) ?_
  refine Sat.lt fun hlt => ?_
  have lC := hlt C _ hc.blk
  have nC := ne2 (show C < n by omega)
  refine Sat.reg (by kernel_rfl) ?_
  simp -dsimp [hc.blk, nC]
  refine RetQ.normal (r := .tuple #[]) (by rfl) ⟨rfl, Lp, pl, pv, hc.put (s' := { s with held := false }) rfl hc.plan rfl, hc.moves, hCL⟩
def CS.lim (s : CS) : Int := limM s.cur.rate s.S
def CS.before (s : CS) : Int := if 1 < s.cov then s.plan[(s.cov - 2).toNat]! else 0
def CS.lastStep (s : CS) : Int := s.plan[(s.cov - 1).toNat]!
def CS.needed (s : CS) : Int × Int := neededM s.lim s.A s.J s.before s.lastStep
def CS.stopping (s : CS) : List Int × Int := stopM s.lim s.A s.J s.before s.lastStep
/-- Whether a feed hold brakes at once. -/
def CS.brakes (s : CS) : Bool := !(s.resting || s.braking) && decide (s.needed.2 = 0) && decide (s.needed.1 ≤ s.cur.len - s.part) && decide (s.stopping.2 = 0)
def CS.braked (s : CS) : CS := { s with held := true, plan := s.stopping.1, cov := 0, braking := true }
def CS.hold (s : CS) : CS := if s.broken then s else if s.brakes then (if s.stopping.1.length = 0 then s.braked.stop else s.braked) else { s with held := true }
abbrev u28_3 : List (Nat × Nat) := []
abbrev u28_5 : List (Nat × Nat) := []
abbrev u28_6 : List (Nat × Nat) := [(3, 15), (7, 15), (9, 15), (13, 15), (14, 15)]
theorem w28 {h : Heap} {C Lp : Nat} {s : CS} {mv pl pv : Value} (hc : CRepV h C Lp s mv pl pv) (hr : s.Run) (h1 : s.cov < s.plan.length → s.braking = false → 1 ≤ s.cov) (hpc : s.pieces.length ≤ 1000000000000) (n : Nat) (hCL : Lp < n) :
    Dm.Spec Try.prog 28 [pC C] h n fun r' h' n' => r' = .tuple #[] ∧ CPost h n C Lp s.hold mv h' n' := by
  refine Spec.body Try.func28 rfl (by kernel_rfl) Try.ntmps28 (by rw [Try.results28]) (Nat.le_of_ble_eq_true rfl) ?_
  refine Sat.lt fun hlt => ?_
  have lC := hlt C _ hc.blk
  have ho := hr.ok
  have few := ho.few
  have nC := ne2 (show C < n by omega)
  have hb := hc.blk
  refine Sat.sq ?_
  refine Sat.sq ?_
  refine Sat.reg (by kernel_rfl) ?_
  simp -dsimp [hb]
  cases hbr : s.broken
  rotate_left
  · have hh : s.hold = s := by simp [CS.hold, hbr]
    refine Sat.cond (t := true) (by rfl) ?_
    refine Sat.ret ?_
    try simp -dsimp only [thenH_ret, blockA_ret, thenA_ret]
    refine RetQ.ret (r := .tuple #[]) (by rfl) ⟨rfl, Lp, pl, pv, by rw [hh]; exact hc, Moves.refl .., hCL⟩
  refine Sat.cond (t := false) (by rfl) ?_
  refine Sat.skip ?_
  simp -dsimp
  refine Sat.sq ?_
  refine Sat.reg (by kernel_rfl) ?_
  simp -dsimp [hb, nC]
  have hc1 : CRepV (upd h C ⟨cCells mv pl pv { s with held := true }, 81, 0, true⟩) C Lp { s with held := true } mv pl pv := hc.put rfl hc.plan rfl
  have hm1 : Moves h n C Lp (upd h C ⟨cCells mv pl pv { s with held := true }, 81, 0, true⟩) n Lp := hc.moves
  have hl1 := lt_upd (b := ⟨cCells mv pl pv { s with held := true }, 81, 0, true⟩) hlt lC
  obtain ⟨g1, hh1⟩ : ∃ g1, upd h C ⟨cCells mv pl pv { s with held := true }, 81, 0, true⟩ = g1 := ⟨_, rfl⟩
  rw [hh1] at hc1 hm1 hl1
  dsimp only [cCells] at hh1
  rw [hh1]
  have hb1 := hc1.blk
  have nobrake : s.brakes = false → s.hold = { s with held := true } := fun hq => by simp [CS.hold, hbr, hq]
  have fin : s.brakes = false → CPost h n C Lp s.hold mv g1 n := fun hq => ⟨Lp, pl, pv, by rw [nobrake hq]; exact hc1, hm1, hCL⟩
  refine Sat.sq ?_
  refine Sat.sq ?_
  refine Sat.reg (by kernel_rfl) ?_
  simp -dsimp
  refine (w55 hc1 _).useH ?_
  rw [show CS.resting { s with held := true } = s.resting from rfl]
  cases hq1 : s.resting
  rotate_left
  · simp -dsimp
    refine Sat.cond (t := true) (by rfl) ?_
    refine Sat.ret ?_
    try simp -dsimp only [thenH_ret, blockA_ret, thenA_ret]
    refine RetQ.ret (r := .tuple #[]) (by rfl) ⟨rfl, fin (by simp [CS.brakes, hq1])⟩
  cases hq2 : s.braking
  rotate_left
  · simp -dsimp [hb1, hq2]
    refine Sat.cond (t := true) (by rfl) ?_
    refine Sat.ret ?_
    try simp -dsimp only [thenH_ret, blockA_ret, thenA_ret]
    refine RetQ.ret (r := .tuple #[]) (by rfl) ⟨rfl, fin (by simp [CS.brakes, hq2])⟩
  simp -dsimp [hb1, hq2]
  refine Sat.cond (t := false) (by rfl) ?_
  refine Sat.skip ?_
  simp -dsimp
  have hcv : s.cov < s.plan.length := by
    have := hr.cov.2
    simp only [CS.resting, decide_eq_false_iff_not] at hq1
    omega
  have h1 := h1 hcv hq2
  have lg := hr.long
  obtain ⟨B, o, sp, b, hB, hbo, idx, ld⟩ := hc1.plan.int (i := s.cov - 1) (by omega) (by show s.cov - 1 < (s.plan.length : Int); omega)
  change ∀ h' : Heap, h' B = some b → loadA Try.prog h' 2 ⟨B, o, sp⟩ = some (.int .i64 s.lastStep) at ld
  have W : IntKind.i64.wrap (s.cov - 1) = s.cov - 1 := wrap_in (by omega) (by omega)
  refine Sat.sq ?_
  refine Sat.drw u28_3 mixed (by kernel_rfl) (by kernel_rfl) (by kernel_rfl) (by kernel_rfl) ?_
  simp -dsimp [hb1, W, -indexAddrA, idx, ↓ld, hB]
  refine Sat.join (fun T2 h2 n2 => find T2 0 = some (pC C) ∧ find T2 2 = some (.int .i64 s.before) ∧ find T2 3 = some (.int .i64 s.lastStep) ∧ h2 = g1 ∧ n2 = n) ?_ ?_
  · refine Sat.sq ?_
    refine Sat.reg (by kernel_rfl) ?_
    simp -dsimp [hb1]
    refine Sat.ite rfl (fun hq => ?_) (fun hq => ?_)
    · have hq : 1 < s.cov := by simpa using hq
      have hbf : s.before = s.plan[(s.cov - 2).toNat]! := by simp [CS.before, hq]
      obtain ⟨B2, o2, sp2, b2, hB2, hbo2, idx2, ld2⟩ := hc1.plan.int (i := s.cov - 2) (by omega) (by show s.cov - 2 < (s.plan.length : Int); omega)
      simp only [← hbf] at ld2
      have W : IntKind.i64.wrap (s.cov - 2) = s.cov - 2 := wrap_in (by omega) (by omega)
      refine Sat.drw u28_5 mixed (by kernel_rfl) (by kernel_rfl) (by kernel_rfl) (by kernel_rfl) ?_
      simp -dsimp [hb1, W, -indexAddrA, idx2, ↓ld2, hB2]
    · have hq : ¬ 1 < s.cov := by simpa using hq
      have hbf : s.before = 0 := by simp only [CS.before, if_neg hq]
      refine Sat.skip ?_
      simp -dsimp [hbf]
  rintro T2 h2 n2 ⟨t0, t2, t3, rfl, rfl⟩
  have hi := (hr.sum hcv).1
  obtain ⟨Bm, om, spm, bm, hBm, hbom, am⟩ := hc1.mot.mot ho.idx.1 hi
  change AtMot mv s.index s.cur Bm om spm bm at am
  have nB := ne2 (show Bm < n2 from hl1 _ _ hBm)
  have ho1 : CS.Ok { s with held := true } := ⟨ho.near, ho.rate, ho.few, ho.idx, ho.part, ho.lim⟩
  refine Sat.sq ?_
  refine Sat.drw u28_6 mixed (by kernel_rfl) (by kernel_rfl) (by kernel_rfl) (by kernel_rfl) ?_
  simp -dsimp [t0, hb1, -indexAddrA, am.idx, ↓am.l38, hBm]
  refine callD.pure (w58 _ _ _ _ _ _ _ _ _ _ _ _ (ho.rate _ (cur_mem ho.idx.1 hi)).2) ?_
  rw [show limM s.cur.rate s.S = s.lim from rfl]
  simp -dsimp [t0, nB, nC]
  have lB : (upd h2 n2 ⟨[.int .i64 s.lim, .int .i64 s.A, .int .i64 s.J], 25, 0, true⟩) n2 = some ⟨[.int .i64 s.lim, .int .i64 s.A, .int .i64 s.J], 25, 0, true⟩ := by rw [upd_at, if_pos rfl]
  obtain ⟨hc3, hm3⟩ := hc1.fresh (n := n2) hl1 ⟨[.int .i64 s.lim, .int .i64 s.A, .int .i64 s.J], 25, 0, true⟩
  have hl3 := lt_fresh (b := ⟨[.int .i64 s.lim, .int .i64 s.A, .int .i64 s.J], 25, 0, true⟩) hl1
  have hm13 := hm1.trans hm3
  generalize upd h2 n2 ⟨[.int .i64 s.lim, .int .i64 s.A, .int .i64 s.J], 25, 0, true⟩ = g3 at *
  have nC1 := ne2 (show C < n2 + 1 by omega)
  have nC2 := ne2 (show C < n2 + 2 by omega)
  have fin3 : s.brakes = false → CPost h n2 C Lp s.hold mv g3 (n2 + 1) := fun hq => ⟨Lp, pl, pv, by rw [nobrake hq]; exact hc3, hm13, by omega⟩
  refine Sat.sq ?_
  refine Sat.reg (by kernel_rfl) ?_
  simp -dsimp [t2, t3, lB]
  refine (w65 _ _ _ _ _).useH ?_
  rw [show neededM s.lim s.A s.J s.before s.lastStep = s.needed from rfl]
  simp -dsimp
  have hi1 : ({ s with held := true } : CS).index < ({ s with held := true } : CS).ms.length := hi
  refine Sat.sq ?_
  refine Sat.sq ?_
  refine Sat.reg (by kernel_rfl) ?_
  by_cases hn : s.needed.2 = 0
  rotate_left
  · simp -dsimp [hn]
    refine Sat.cond (t := true) (by rfl) ?_
    refine Sat.ret ?_
    try simp -dsimp only [thenH_ret, blockA_ret, thenA_ret]
    refine RetQ.ret (r := .tuple #[]) (by rfl) ⟨rfl, fin3 (by simp [CS.brakes, hn])⟩
  simp -dsimp [hn, t0]
  refine (w57 hc3 ho1 hi1 _).useH ?_
  rw [show (CS.cur { s with held := true }).len - ({ s with held := true } : CS).part = s.cur.len - s.part from rfl]
  simp -dsimp
  refine Sat.ite rfl (fun hq => ?_) (fun hq => ?_)
  · have hq : s.cur.len - s.part < s.needed.1 := by simpa using hq
    refine Sat.ret ?_
    try simp -dsimp only [thenH_ret, blockA_ret, thenA_ret]
    refine RetQ.ret (r := .tuple #[]) (by rfl) ⟨rfl, fin3 ?_⟩
    simp [CS.brakes]; intro _ _ _ h; omega
  have hle : s.needed.1 ≤ s.cur.len - s.part := by simpa using hq
  refine Sat.skip ?_
  simp -dsimp
  refine Sat.sq ?_
  refine Sat.reg (by kernel_rfl) ?_
  simp -dsimp [t2, t3, lB]
  obtain ⟨Ag, cg, eg⟩ := gcv_val (n2 + 1) 1 s.stopping.1.length
  obtain ⟨ro, hsame, hlt4⟩ := gc_ro (e := 2) hl3 (ints_length s.stopping.1)
  refine (show Dm.Spec Try.prog 66 _ g3 (n2 + 1) fun r h' n' => r = .tuple #[gcv (n2 + 1) 1 s.stopping.1.length, .int .i64 s.stopping.2] ∧ h' = applyU g3 (gcu (n2 + 1) 2 (ints s.stopping.1) s.stopping.1.length false) ∧ n' = n2 + 1 + 1 from w66' _ _ _ _ _ g3 (n2 + 1) false).useH ?_
  generalize applyU g3 (gcu (n2 + 1) 2 (ints s.stopping.1) s.stopping.1.length false) = g4 at *
  obtain ⟨hc4, hm4⟩ := hc3.same (n' := n2 + 1 + 1) hl3 hsame (by omega)
  have hm14 := hm13.trans hm4
  rw [eg] at ro
  rw [eg]
  simp -dsimp
  refine Sat.sq ?_
  refine Sat.sq ?_
  refine Sat.reg (by kernel_rfl) ?_
  simp -dsimp
  refine Sat.ite rfl (fun hq => ?_) (fun hq => ?_)
  · have hq : ¬ s.stopping.2 = 0 := by simpa using hq
    have hnb : s.brakes = false := by simp [CS.brakes, hq]
    refine Sat.ret ?_
    try simp -dsimp only [thenH_ret, blockA_ret, thenA_ret]
    refine RetQ.ret (r := .tuple #[]) (by rfl) ⟨rfl, Lp, pl, pv, by rw [nobrake hnb]; exact hc4, hm14, by omega⟩
  have hst : s.stopping.2 = 0 := by simpa using hq
  have hyes : s.brakes = true := by simp [CS.brakes, hq1, hq2, hn, hle, hst]
  refine Sat.skip ?_
  simp -dsimp
  refine Sat.sq ?_
  refine Sat.reg (by kernel_rfl) ?_
  simp -dsimp [t0, hc4.blk, nC2]
  have hc5 : CRepV (upd g4 C ⟨cCells mv (.slice Ag s.stopping.1.length cg) pv s.braked, 81, 0, true⟩) C Lp s.braked mv (.slice Ag s.stopping.1.length cg) pv := hc4.put rfl ro rfl
  have hm5 : Moves g4 (n2 + 1 + 1) C Lp (upd g4 C ⟨cCells mv (.slice Ag s.stopping.1.length cg) pv s.braked, 81, 0, true⟩) (n2 + 1 + 1) Lp := hc4.moves
  have hm15 := hm14.trans hm5
  obtain ⟨g5, hh5⟩ : ∃ g5, upd g4 C ⟨cCells mv (.slice Ag s.stopping.1.length cg) pv s.braked, 81, 0, true⟩ = g5 := ⟨_, rfl⟩
  rw [hh5] at hc5 hm15
  dsimp only [cCells, CS.braked] at hh5
  rw [hh5]
  refine Sat.sq ?_
  refine Sat.reg (by kernel_rfl) ?_
  simp -dsimp
  refine Sat.ite rfl (fun hq => ?_) (fun hq => ?_)
  · have hq : s.stopping.1.length = 0 := by simpa using hq
    have hh : s.hold = s.braked.stop := by simp only [CS.hold, hbr, hyes, hq, if_true, Bool.false_eq_true, if_false]
    refine Sat.reg (by kernel_rfl) ?_
    simp -dsimp [t0]
    refine (w59 hc5 ⟨ho.near, ho.rate, ho.few, ho.idx, ho.part, ho.lim⟩ hi hpc _ (by omega)).onH ?_
    rintro r h6 n6 ⟨rfl, Lp', pl6, pv6, hc6, hm6, hl6⟩
    simp -dsimp
    refine RetQ.normal (r := .tuple #[]) (by rfl) ⟨rfl, Lp', pl6, pv6, by rw [hh]; exact hc6, hm15.trans hm6, hl6⟩
  · have hq : ¬ s.stopping.1.length = 0 := by simpa using hq
    have hh : s.hold = s.braked := by simp only [CS.hold, hbr, hyes, if_neg hq, if_true, Bool.false_eq_true, if_false]
    refine Sat.skip ?_
    refine RetQ.normal (r := .tuple #[]) (by rfl) ⟨rfl, Lp, _, pv, by rw [hh]; exact hc5, hm15, by omega⟩

end Go.Proofs.Ytoinimkmoojcoaa
/- Walks, part B11. -/
set_option maxRecDepth 100000
set_option maxHeartbeats 4000000
set_option linter.unusedSimpArgs false
set_option linter.unusedVariables false
namespace Go.Proofs.Ytoinimkmoojcoaa
open Go Go.Dm
attribute [local simp ↓] RunS_nil RunS_op RunS_guard RunT_nil RunT_op RunT_guard opS_call opD_call opS_move opD_move opS_assign opD_assign opS_pick opD_pick opS_nilCheck opD_nilCheck opS_fieldAddr opD_fieldAddr opS_indexAddr opD_indexAddr opS_load opD_load opS_store opD_store opS_alloc opD_alloc opS_box opD_box opS_build opD_build opS_buildSlice opD_buildSlice opS_field opD_field opS_extract opD_extract opS_makeFunc opD_makeFunc opS_slice opD_slice opS_binOp opD_binOp opS_unOp opD_unOp opS_convert opD_convert opS_index opD_index opS_len opD_len opS_append opD_append opS_max opD_max opS_min opD_min obind_some obind_none thenH_normal thenH_ret thenH_exit blockA_normal blockA_ret blockA_exit thenA_normal thenA_ret thenA_exit dstAt_mk dstL_zero dstL_succ
attribute [local simp] undef wantG_bool wantG_undef findO_some calleeS find putA ev closed3 closed2 closed1 closed0 pickA binF unF convF mxF eqNilA fastBin fastUn fastConv intBin argEnv resultsA resultsL resultA notTuple allocs eff
  loadO storeO allocO boxO sliceO indexO indexAddrA loadA storeA newA isAggT nilCheckA lenA evAll evParts aadd gen upd_at upd_upd Value.cells mxV Pairs apart readsS labOf putAt fieldA partA extractA makeFuncA evOpt boundOf sliceA Nat.add_assoc
attribute [local simp] bu107_z bu107_0_1 bu25_0_1_2 bu36_z bu36_0_1 bu36_0_1_2 bu36_0 bu38_z bu38_0_1_2_3_4 bu38_0_1_3 bu38_0_1_3_4 bu38_1_2 bu38_1_2_3 bu52_0_1_10 bu81_0_1 bs22_0_z bs22_1_0 bs22_2_0_1 bs39_1_0 bs39_7_0_1_2_3_4_5_6 bs95_4_0_1_2_3
attribute [local simp ↓] eql107 neq107 eql36 neq36 eql38 neq38 eql25 neq25
attribute [local simp] fa25_0 fa25_1 fa25_2 fa36_0 fa36_1 fa36_2 fa38_0 fa38_1 fa38_2 fa38_3 fa38_4 fa107_0 fa107_1 fa81_0 fa81_1 fa81_2 fa81_3 fa81_4 fa81_5 fa81_6 fa81_7 fa81_8 fa81_9 fa81_10 fa52_0 fa52_1 fa52_2 fa52_3 fa52_4 fa52_5 fa52_6 fa52_7 fa52_8 fa52_9 fa52_10 fa52_11 fa52_12
attribute [local simp] c22 c39 c29 z22 z39 c25 c38 c2 c3 c4 c36 c107 c30 z25 z38 z2 z3 z4 z36 z107 b38 b25 b107 h38 h25 h36 h107 g38 g25 g36 g107 Try.underlying25 Try.underlying38 Try.underlying2 Try.underlying3 Try.underlying4 Try.underlying36 Try.underlying22 Try.underlying39 Try.underlying29 Try.underlying81 Try.underlying107 Try.underlying30
attribute [local simp] mx mn
def CS.brk (s : CS) : CS := if s.broken then s else { s.push.toPos with plan := [], cov := 0, braking := false, held := false, broken := true }
abbrev u33_3 : List (Nat × Nat) := [(4, 6)]
theorem w33 {h : Heap} {C Lp : Nat} {s : CS} {mv pl pv : Value} (hc : CRepV h C Lp s mv pl pv) (ho : s.Ok) (hpc : s.pieces.length ≤ 1000000000000) (n : Nat) (hCL : Lp < n) :
    Dm.Spec Try.prog 33 [pC C] h n fun r' h' n' => r' = .tuple #[] ∧ CPost h n C Lp s.brk mv h' n' := by
  refine Spec.body Try.func33 rfl (by kernel_rfl) Try.ntmps33 (by rw [Try.results33]) (Nat.le_of_ble_eq_true rfl) ?_
  refine Sat.lt fun hlt => ?_
  have lC := hlt C _ hc.blk
  have few := ho.few
  have nC := ne2 (show C < n by omega)
  have nC1 := ne2 (show C < n + 1 by omega)
  have hb := hc.blk
  refine Sat.sq ?_
  refine Sat.sq ?_
  refine Sat.reg (by kernel_rfl) ?_
  simp -dsimp [hb]
  cases hbr : s.broken
  rotate_left
  · have hh : s.brk = s := by simp [CS.brk, hbr]
    refine Sat.cond (t := true) (by rfl) ?_
    refine Sat.ret ?_
    try simp -dsimp only [thenH_ret, blockA_ret, thenA_ret]
    refine RetQ.ret (r := .tuple #[]) (by rfl) ⟨rfl, Lp, pl, pv, by rw [hh]; exact hc, Moves.refl .., hCL⟩
  have hh : s.brk = { s.push.toPos with plan := [], cov := 0, braking := false, held := false, broken := true } := by simp [CS.brk, hbr]
  rw [hh]
  refine Sat.cond (t := false) (by rfl) ?_
  refine Sat.skip ?_
  simp -dsimp
  refine Sat.join (fun T3 h3 n3 => find T3 0 = some (pC C) ∧ ∃ Lp' pv', CRepV h3 C Lp' s.push mv pl pv' ∧ Moves h n C Lp h3 n3 Lp' ∧ Lp' < n3) ?_ ?_
  · refine Sat.sq ?_
    refine Sat.reg (by kernel_rfl) ?_
    simp -dsimp
    refine (w54 hc ho _).useH ?_
    simp -dsimp
    refine Sat.sq ?_
    refine Sat.reg (by kernel_rfl) ?_
    simp -dsimp [nC]
    have hb2 := hc.fresh (n := n) hlt ⟨s.piece.1.cells, 38, 0, true⟩
    have hl2 := lt_fresh (b := ⟨s.piece.1.cells, 38, 0, true⟩) hlt
    have hB2 : upd h n ⟨s.piece.1.cells, 38, 0, true⟩ n = some ⟨s.piece.1.cells, 38, 0, true⟩ := by rw [upd_at, if_pos rfl]
    obtain ⟨h2, hh2⟩ : ∃ h2, upd h n ⟨s.piece.1.cells, 38, 0, true⟩ = h2 := ⟨_, rfl⟩
    rw [hh2] at hb2 hl2 hB2
    dsimp only [Mot.cells] at hh2
    rw [hh2]
    obtain ⟨hc2, hm2⟩ := hb2
    refine Sat.ite rfl (fun hq => ?_) (fun hq => ?_)
    · have hpush : s.push = { s with pieces := s.pieces ++ [s.piece.1] } := by simp [CS.push, hq]
      refine Sat.drw u33_3 mixed (by kernel_rfl) (by kernel_rfl) (by kernel_rfl) (by kernel_rfl) ?_
      have hc2b := hc2.blk
      obtain ⟨hc3, hm3⟩ := hc2.fresh (n := n + 1) hl2 ⟨s.piece.1.cells, 38, 0, true⟩
      have hB3 : upd h2 (n + 1) ⟨s.piece.1.cells, 38, 0, true⟩ (n + 1) = some ⟨s.piece.1.cells, 38, 0, true⟩ := by rw [upd_at, if_pos rfl]
      obtain ⟨h3, hh3⟩ : ∃ h3, upd h2 (n + 1) ⟨s.piece.1.cells, 38, 0, true⟩ = h3 := ⟨_, rfl⟩
      rw [hh3] at hc3 hm3 hB3
      dsimp only [Mot.cells] at hh3 hB2
      obtain ⟨pv', E, Lp', ha, hfr, hl, hal, hlt', hpv⟩ := hc3.pcs.append s.piece.1 (L := n + 2) hB3 (by omega) (by omega) (by omega)
      have hEC : eff h3 E C = some ⟨cCells mv pl pv s, 81, 0, true⟩ := by
        rw [hfr C (by
          rcases hl with ⟨h0, rfl⟩ | ⟨_, rfl⟩
          · rcases hc3.pcs with ⟨h, _⟩ | ⟨_, h, _⟩
            · exact absurd h h0
            · exact fun e => h e.symm
          · omega)]; exact hc3.blk
      have hl3 := lt_fresh (b := ⟨s.piece.1.cells, 38, 0, true⟩) hl2
      dsimp only [Mot.cells] at hl3
      rw [hh3] at hl3
      obtain ⟨hc4, hm4⟩ := hc3.grow hl3 hfr hl hpv hal
      obtain ⟨A', c', e'⟩ := hpv.val
      have nE := ne2 (show C < allocs (n + 2) E by omega)
      rw [show (s.pieces ++ [s.piece.1]).length = s.pieces.length + 1 by simp] at e'
      subst e'
      simp -dsimp [hc2b, hB2, nC, nC1, hh3, ha, hEC, nE, -eff, -allocs, allocs_at, eff_at]
      rw [hpush]
      exact ⟨Lp', ⟨_, hc4⟩, hm2.trans (hm3.trans hm4), hlt'⟩
    · have hpush : s.push = s := by simp [CS.push, hq]
      refine Sat.skip ?_
      simp -dsimp
      exact ⟨Lp, ⟨pv, by rw [hpush]; exact hc2⟩, hm2, by omega⟩
  · rintro T3 h3 n3 ⟨t0, Lp', pv', hc3, hm3, hL3⟩
    have ho2 : s.push.Ok := by unfold CS.push; split; exact ⟨ho.near, ho.rate, ho.few, ho.idx, ho.part, ho.lim⟩; exact ho
    have hbr2 : s.push.broken = false := by unfold CS.push; split <;> exact hbr
    generalize s.push = s2 at *
    refine Sat.lt fun hlt3 => ?_
    have lC3 := hlt3 C _ hc3.blk
    have nC3 := ne2 (show C < n3 by omega)
    refine Sat.sq ?_
    refine Sat.reg (by kernel_rfl) ?_
    simp -dsimp [t0]
    refine (w31 hc3 ho2 _).useH ?_
    simp -dsimp [t0, hc3.blk, nC3]
    refine Sat.sq ?_
    refine Sat.reg (by kernel_rfl) ?_
    simp -dsimp [t0, nC3]
    refine Sat.reg (by kernel_rfl) ?_
    simp -dsimp [t0, nC3]
    have hc4 := hc3.put (s' := { s2.toPos with plan := [], cov := 0, braking := false, held := false, broken := true }) rfl RO.nil rfl
    refine RetQ.normal (r := .tuple #[]) (by rfl) ⟨rfl, Lp', .slice none 0 0, pv', hc4, hm3.trans hc3.moves, hL3⟩

end Go.Proofs.Ytoinimkmoojcoaa
/- Walks, part B12. -/
set_option maxRecDepth 100000
set_option maxHeartbeats 4000000
set_option linter.unusedSimpArgs false
set_option linter.unusedVariables false
namespace Go.Proofs.Ytoinimkmoojcoaa
open Go Go.Dm
attribute [local simp ↓] RunS_nil RunS_op RunS_guard RunT_nil RunT_op RunT_guard opS_call opD_call opS_move opD_move opS_assign opD_assign opS_pick opD_pick opS_nilCheck opD_nilCheck opS_fieldAddr opD_fieldAddr opS_indexAddr opD_indexAddr opS_load opD_load opS_store opD_store opS_alloc opD_alloc opS_box opD_box opS_build opD_build opS_buildSlice opD_buildSlice opS_field opD_field opS_extract opD_extract opS_makeFunc opD_makeFunc opS_slice opD_slice opS_binOp opD_binOp opS_unOp opD_unOp opS_convert opD_convert opS_index opD_index opS_len opD_len opS_append opD_append opS_max opD_max opS_min opD_min obind_some obind_none thenH_normal thenH_ret thenH_exit blockA_normal blockA_ret blockA_exit thenA_normal thenA_ret thenA_exit dstAt_mk dstL_zero dstL_succ
attribute [local simp] undef wantG_bool wantG_undef findO_some calleeS find putA ev closed3 closed2 closed1 closed0 pickA binF unF convF mxF eqNilA fastBin fastUn fastConv intBin argEnv resultsA resultsL resultA notTuple allocs eff
  loadO storeO allocO boxO sliceO indexO indexAddrA loadA storeA newA isAggT nilCheckA lenA evAll evParts aadd gen upd_at upd_upd Value.cells mxV Pairs apart readsS labOf putAt fieldA partA extractA makeFuncA evOpt boundOf sliceA Nat.add_assoc
attribute [local simp] bu107_z bu107_0_1 bu25_0_1_2 bu36_z bu36_0_1 bu36_0_1_2 bu36_0 bu38_z bu38_0_1_2_3_4 bu38_0_1_3 bu38_0_1_3_4 bu38_1_2 bu38_1_2_3 bu52_0_1_10 bu81_0_1 bs22_0_z bs22_1_0 bs22_2_0_1 bs39_1_0 bs39_7_0_1_2_3_4_5_6 bs95_4_0_1_2_3
attribute [local simp ↓] eql107 neq107 eql36 neq36 eql38 neq38 eql25 neq25
attribute [local simp] fa25_0 fa25_1 fa25_2 fa36_0 fa36_1 fa36_2 fa38_0 fa38_1 fa38_2 fa38_3 fa38_4 fa107_0 fa107_1 fa81_0 fa81_1 fa81_2 fa81_3 fa81_4 fa81_5 fa81_6 fa81_7 fa81_8 fa81_9 fa81_10 fa52_0 fa52_1 fa52_2 fa52_3 fa52_4 fa52_5 fa52_6 fa52_7 fa52_8 fa52_9 fa52_10 fa52_11 fa52_12
attribute [local simp] c22 c39 c29 z22 z39 c25 c38 c2 c3 c4 c36 c107 c30 z25 z38 z2 z3 z4 z36 z107 b38 b25 b107 h38 h25 h36 h107 g38 g25 g36 g107 Try.underlying25 Try.underlying38 Try.underlying2 Try.underlying3 Try.underlying4 Try.underlying36 Try.underlying22 Try.underlying39 Try.underlying29 Try.underlying81 Try.underlying107 Try.underlying30
attribute [local simp] mx mn
def anyFrom (p : Int → Bool) : Nat → Int → Bool
  | 0, _ => false
  | k + 1, i => p i || anyFrom p k (i + 1)
def firstErr (f : Int → Int) : Nat → Int → Int
  | 0, _ => 0
  | k + 1, i => if f i = 0 then firstErr f k (i + 1) else f i
theorem anyFrom_step {p : Int → Bool} {n i : Int} (h : i < n) : anyFrom p (n - i).toNat i = (p i || anyFrom p (n - (i + 1)).toNat (i + 1)) := by
  rw [show (n - i).toNat = (n - (i + 1)).toNat + 1 by omega, anyFrom]
theorem firstErr_step {p : Int → Int} {n i : Int} (h : i < n) : firstErr p (n - i).toNat i = if p i = 0 then firstErr p (n - (i + 1)).toNat (i + 1) else p i := by
  rw [show (n - i).toNat = (n - (i + 1)).toNat + 1 by omega, firstErr]
def bad1 (l : List Mot) (i : Int) : Bool := decide ((l[i.toNat]!).rate < 0) || (decide (0 < i) && decide (¬ (l[(i - 1).toNat]!).to = (l[i.toNat]!).fr))
def far1 (l : List Mot) (i : Int) : Bool := farM (l[i.toNat]!).fx (l[i.toNat]!).fy (l[i.toNat]!).fz || farM (l[i.toNat]!).tx (l[i.toNat]!).ty (l[i.toNat]!).tz
def err1 (S A J : Int) (l : List Mot) (i : Int) : Int := (stepsM (limM (l[i.toNat]!).rate S) A J (l[i.toNat]!).len).2
def badM (l : List Mot) : Bool := anyFrom (bad1 l) l.length 0
def farsM (l : List Mot) : Bool := anyFrom (far1 l) l.length 0
def errM (S A J : Int) (l : List Mot) : Int := firstErr (err1 S A J l) l.length 0
def checkM (S A J : Int) (l : List Mot) : Int := if validM S A J then (if badM l then 1 else if farsM l then 11 else if 20000 < l.length then 3 else errM S A J l) else 1
theorem farM_near {m : Mot} (h : farM m.fx m.fy m.fz = false) (h' : farM m.tx m.ty m.tz = false) : m.near := by
  simp only [farM, Bool.or_eq_false_iff, decide_eq_false_iff_not] at h h'
  simp only [Mot.near, inR]; omega
theorem anyFrom_false {p : Int → Bool} : ∀ {k : Nat} {i : Int}, anyFrom p k i = false → ∀ j, i ≤ j → j < i + k → p j = false
  | 0, _, _, j, h1, h2 => by omega
  | k + 1, i, h, j, h1, h2 => by
    simp only [anyFrom, Bool.or_eq_false_iff] at h
    by_cases e : j = i
    · rw [e]; exact h.1
    · exact anyFrom_false h.2 j (by omega) (by omega)
theorem fars_near {l : List Mot} (h : farsM l = false) : ∀ i : Int, 0 ≤ i → i < l.length → (l[i.toNat]!).near := by
  intro i h0 h1
  have := anyFrom_false h i h0 (by omega)
  simp only [far1, Bool.or_eq_false_iff] at this
  exact farM_near this.1 this.2
theorem fars_near' {l : List Mot} (h : farsM l = false) : ∀ m ∈ l, m.near := by
  intro m hm
  obtain ⟨i, hi, rfl⟩ := List.mem_iff_getElem.1 hm
  have := fars_near h (i : Int) (by omega) (by omega)
  simpa [hi] using this
abbrev u43_6 : List (Nat × Nat) := []
abbrev u43_20 : List (Nat × Nat) := [(1, 2), (1, 3)]
theorem w43 {h : Heap} {lv : Value} {ms : List Mot} {S A J : Int} (hr : RO h 9 lv (motCells ms) ms.length) (few : ms.length ≤ 1000000) (rates : ∀ m ∈ ms, m.rate ≤ 9223372036854775807) (n : Nat) :
    Dm.Spec Try.prog 43 [lv, .agg #[.int .i64 S, .int .i64 A, .int .i64 J]] h n fun r' h' n' => r' = .int .i64 (checkM S A J ms) ∧ h' = h ∧ n' = n := by
  refine pureAt Try.func43 rfl (by kernel_rfl) Try.ntmps43 (by rw [Try.results43]) (Nat.le_of_ble_eq_true rfl) ?_
  refine Sat.lt fun hlt => ?_
  obtain ⟨Ad, cd, rfl⟩ := hr.len
  refine Sat.sq ?_
  refine Sat.reg (by kernel_rfl) ?_
  simp -dsimp
  refine Sat.sq ?_
  refine Sat.sq ?_
  refine Sat.reg (by kernel_rfl) ?_
  simp -dsimp
  refine (w42 ..).useH ?_
  cases hv : validM S A J
  · simp -dsimp
    refine Sat.cond (t := true) (by rfl) ?_
    refine Sat.sq ?_
    refine Sat.reg (by kernel_rfl) ?_
    simp -dsimp
    refine Sat.ret ?_
    try simp -dsimp only [thenH_ret, blockA_ret, thenA_ret]
    refine PureQ.ret (r := .int .i64 (checkM S A J ms)) (by rfl) (keep_upd (by omega) keep_refl) ?_
    simp [checkM, hv]
  simp -dsimp
  refine Sat.cond (t := false) (by rfl) ?_
  refine Sat.skip ?_
  simp -dsimp
  refine Sat.join (fun T h' n' => (find T 0 = some (.slice Ad ms.length cd) ∧ find T 3 = some (.pointer (some ⟨n, 0, none⟩)) ∧ h' n = some ⟨[.int .i64 S, .int .i64 A, .int .i64 J], 25, 0, true⟩ ∧ (∀ L, L < n → h' L = h L) ∧ n < n') ∧ badM ms = false) ?_ ?_
  · refine Sat.sq ?_
    refine Sat.reg (by kernel_rfl) ?_
    simp -dsimp
    refine Sat.block ?_
    refine Sat.loop (ι := Int) (fun i T h' n' => (find T 0 = some (.slice Ad ms.length cd) ∧ find T 3 = some (.pointer (some ⟨n, 0, none⟩)) ∧ h' n = some ⟨[.int .i64 S, .int .i64 A, .int .i64 J], 25, 0, true⟩ ∧ (∀ L, L < n → h' L = h L) ∧ n < n') ∧
      find T 16 = some (.slice Ad ms.length cd) ∧ find T 17 = some (.int .i64 ms.length) ∧ find T 18 = some (.int .i64 i) ∧ 0 ≤ i ∧ i ≤ ms.length ∧ anyFrom (bad1 ms) (ms.length - i).toNat i = badM ms) (fun i => (ms.length - i).toNat) 0 ?_ ?_
    · refine ⟨⟨rfl, rfl, by rw [upd_at, if_pos rfl], keep_upd (by omega) keep_refl, by omega⟩, rfl, rfl, rfl, by omega, by omega, ?_⟩
      simp [badM]
    · rintro i T h' n' ⟨⟨t0, t3, hn, hk, ln⟩, t16, t17, t18, i0, i1, hi⟩
      refine Sat.sq ?_
      refine Sat.reg (by kernel_rfl) ?_
      simp -dsimp [t17, t18]
      refine Sat.sq ?_
      refine Sat.ite rfl (fun hc => ?_) (fun hc => ?_)
      · have hc : i < ms.length := by simpa using hc
        obtain ⟨B, o, sp, b, hB, hbo, am⟩ := hr.mot i0 hc
        have hB' : h' B = some b := by rw [hk B (hlt B b hB)]; exact hB
        have nB := ne2 (show B < n' by have := hlt B b hB; omega)
        have nn := ne2 ln
        rw [anyFrom_step hc] at hi
        refine Sat.skip ?_
        simp -dsimp
        refine Sat.sq ?_
        refine Sat.block ?_
        refine Sat.sq ?_
        refine Sat.reg (by kernel_rfl) ?_
        have hb1 : bad1 ms i = (decide ((ms[i.toNat]!).rate < 0) || (decide (0 < i) && decide (¬ (ms[(i - 1).toNat]!).to = (ms[i.toNat]!).fr))) := rfl
        generalize ms[i.toNat]! = m at *
        simp -dsimp [t16, t18, -indexAddrA, am.idx, ↓am.l38, hB', nB, nn]
        have hk2 : ∀ L, L < n → upd h' n' ⟨m.cells, 38, 0, true⟩ L = h L := keep_upd (by omega) hk
        have hn2 : upd h' n' ⟨m.cells, 38, 0, true⟩ n = some ⟨[.int .i64 S, .int .i64 A, .int .i64 J], 25, 0, true⟩ := by rw [upd_at, if_neg (by omega)]; exact hn
        have hm2 : upd h' n' ⟨m.cells, 38, 0, true⟩ n' = some ⟨m.cells, 38, 0, true⟩ := by rw [upd_at, if_pos rfl]
        dsimp only [Mot.cells] at hk2 hn2 hm2
        generalize upd h' n' _ = g at *
        refine Sat.join (fun T h'' n'' => find T 40 = some (.bool (bad1 ms i)) ∧ find T 0 = some (.slice Ad ms.length cd) ∧ find T 3 = some (.pointer (some ⟨n, 0, none⟩)) ∧ find T 16 = some (.slice Ad ms.length cd) ∧ find T 17 = some (.int .i64 ms.length) ∧ find T 18 = some (.int .i64 i) ∧ h'' = g ∧ n'' = n' + 1) ?_ ?_
        · refine Sat.drw u43_6 mixed (by kernel_rfl) (by kernel_rfl) (by kernel_rfl) (by kernel_rfl) ?_
          by_cases hr1 : m.rate < 0
          · simp -dsimp [t0, t3, t16, t17, t18, hm2, hr1, hb1]
          · by_cases hi0 : 0 < i
            · obtain ⟨B2, o2, sp2, b2, hB2, hbo2, am2⟩ := hr.mot (i := i - 1) (by omega) (by omega)
              have hB2' : g B2 = some b2 := by rw [hk2 B2 (hlt B2 b2 hB2)]; exact hB2
              generalize ms[(i - 1).toNat]! = m2 at *
              have W : IntKind.i64.wrap (i - 1) = i - 1 := wrap_in (by omega) (by omega)
              simp -dsimp [t0, t3, t16, t17, t18, hm2, hr1, hi0, W, -indexAddrA, am2.idx, ↓am2.l36', hB2', hb1, Mot.to, Mot.fr, P3.mk.injEq]
            · simp -dsimp [t0, t3, t16, t17, t18, hm2, hr1, hi0, hb1]
        rintro T2 h2 n2 ⟨t40, t0, t3, t16, t17, t18, rfl, rfl⟩
        cases hbd : bad1 ms i
        · rw [hbd, Bool.false_or] at hi
          rw [hbd] at t40
          refine Sat.cond (t := false) t40 ?_
          refine Sat.skip ?_
          simp -dsimp
          have W : IntKind.i64.wrap (i + 1) = i + 1 := wrap_in (by omega) (by omega)
          refine Sat.reg (by kernel_rfl) ?_
          simp -dsimp [t0, t3, t16, t17, t18, W]
          exact ⟨i + 1, ⟨⟨hn2, hk2, by omega⟩, rfl, by omega, by omega, hi⟩, by omega⟩
        · rw [hbd, Bool.true_or] at hi
          rw [hbd] at t40
          refine Sat.cond (t := true) t40 ?_
          refine Sat.sq ?_
          refine Sat.reg (by kernel_rfl) ?_
          simp -dsimp
          refine Sat.ret ?_
          try simp -dsimp only [thenH_ret, blockA_ret, thenA_ret]
          refine PureQ.ret (r := .int .i64 (checkM S A J ms)) (by rfl) hk2 ?_
          simp [checkM, hv, ← hi]
      · have hc : ¬ i < ms.length := by simpa using hc
        refine Sat.exit ?_
        rw [show (ms.length - i).toNat = 0 by omega] at hi
        simp -dsimp [t0, t3, hn, ln, ← hi, anyFrom]
        exact hk
  rintro T h1 n1 ⟨⟨t0, t3, hn, hk, ln⟩, hbad⟩
  refine Sat.join (fun T h' n' => (find T 0 = some (.slice Ad ms.length cd) ∧ find T 3 = some (.pointer (some ⟨n, 0, none⟩)) ∧ h' n = some ⟨[.int .i64 S, .int .i64 A, .int .i64 J], 25, 0, true⟩ ∧ (∀ L, L < n → h' L = h L) ∧ n < n') ∧ farsM ms = false) ?_ ?_
  · refine Sat.sq ?_
    refine Sat.reg (by kernel_rfl) ?_
    simp -dsimp [t0]
    refine Sat.block ?_
    refine Sat.loop (ι := Int) (fun i T h' n' => (find T 0 = some (.slice Ad ms.length cd) ∧ find T 3 = some (.pointer (some ⟨n, 0, none⟩)) ∧ h' n = some ⟨[.int .i64 S, .int .i64 A, .int .i64 J], 25, 0, true⟩ ∧ (∀ L, L < n → h' L = h L) ∧ n < n') ∧
      find T 42 = some (.slice Ad ms.length cd) ∧ find T 43 = some (.int .i64 ms.length) ∧ find T 44 = some (.int .i64 i) ∧ 0 ≤ i ∧ i ≤ ms.length ∧ anyFrom (far1 ms) (ms.length - i).toNat i = farsM ms) (fun i => (ms.length - i).toNat) 0 ?_ ?_
    · refine ⟨⟨t0, t3, hn, hk, ln⟩, rfl, rfl, rfl, by omega, by omega, ?_⟩
      simp [farsM]
    · rintro i T h' n' ⟨⟨t0, t3, hn, hk, ln⟩, t16, t17, t18, i0, i1, hi⟩
      refine Sat.sq ?_
      refine Sat.reg (by kernel_rfl) ?_
      simp -dsimp [t17, t18]
      refine Sat.sq ?_
      refine Sat.ite rfl (fun hc => ?_) (fun hc => ?_)
      · have hc : i < ms.length := by simpa using hc
        obtain ⟨B, o, sp, b, hB, hbo, am⟩ := hr.mot i0 hc
        have hB' : h' B = some b := by rw [hk B (hlt B b hB)]; exact hB
        have nB := ne2 (show B < n' by have := hlt B b hB; omega)
        have nn := ne2 ln
        rw [anyFrom_step hc] at hi
        refine Sat.skip ?_
        simp -dsimp
        refine Sat.sq ?_
        refine Sat.block ?_
        refine Sat.sq ?_
        refine Sat.reg (by kernel_rfl) ?_
        have hb1 : far1 ms i = (farM (ms[i.toNat]!).fx (ms[i.toNat]!).fy (ms[i.toNat]!).fz || farM (ms[i.toNat]!).tx (ms[i.toNat]!).ty (ms[i.toNat]!).tz) := rfl
        generalize ms[i.toNat]! = m at *
        simp -dsimp [t16, t18, -indexAddrA, am.idx, ↓am.l38, hB', nB, nn]
        have hk2 : ∀ L, L < n → upd h' n' ⟨m.cells, 38, 0, true⟩ L = h L := keep_upd (by omega) hk
        have hn2 : upd h' n' ⟨m.cells, 38, 0, true⟩ n = some ⟨[.int .i64 S, .int .i64 A, .int .i64 J], 25, 0, true⟩ := by rw [upd_at, if_neg (by omega)]; exact hn
        have hm2 : upd h' n' ⟨m.cells, 38, 0, true⟩ n' = some ⟨m.cells, 38, 0, true⟩ := by rw [upd_at, if_pos rfl]
        dsimp only [Mot.cells] at hk2 hn2 hm2
        generalize upd h' n' _ = g at *
        refine Sat.join (fun T h'' n'' => find T 55 = some (.bool (far1 ms i)) ∧ find T 0 = some (.slice Ad ms.length cd) ∧ find T 3 = some (.pointer (some ⟨n, 0, none⟩)) ∧ find T 42 = some (.slice Ad ms.length cd) ∧ find T 43 = some (.int .i64 ms.length) ∧ find T 44 = some (.int .i64 i) ∧ h'' = g ∧ n'' = n' + 1) ?_ ?_
        · refine Sat.reg (by kernel_rfl) ?_
          simp -dsimp [hm2]
          refine (w75 _ _ _).useH ?_
          cases hf : farM m.fx m.fy m.fz
          · simp -dsimp [hm2]
            refine (w75 _ _ _).useH ?_
            simp -dsimp [t0, t3, t16, t17, t18, hb1, hf]
          · simp -dsimp [t0, t3, t16, t17, t18, hb1, hf]
        rintro T2 h2 n2 ⟨t40, t0, t3, t16, t17, t18, rfl, rfl⟩
        cases hbd : far1 ms i
        · rw [hbd, Bool.false_or] at hi
          rw [hbd] at t40
          refine Sat.cond (t := false) t40 ?_
          refine Sat.skip ?_
          simp -dsimp
          have W : IntKind.i64.wrap (i + 1) = i + 1 := wrap_in (by omega) (by omega)
          refine Sat.reg (by kernel_rfl) ?_
          simp -dsimp [t0, t3, t16, t17, t18, W]
          exact ⟨i + 1, ⟨⟨hn2, hk2, by omega⟩, rfl, by omega, by omega, hi⟩, by omega⟩
        · rw [hbd, Bool.true_or] at hi
          rw [hbd] at t40
          refine Sat.cond (t := true) t40 ?_
          refine Sat.sq ?_
          refine Sat.reg (by kernel_rfl) ?_
          simp -dsimp
          refine Sat.ret ?_
          try simp -dsimp only [thenH_ret, blockA_ret, thenA_ret]
          refine PureQ.ret (r := .int .i64 (checkM S A J ms)) (by rfl) hk2 ?_
          simp [checkM, hv, ← hi, hbad]
      · have hc : ¬ i < ms.length := by simpa using hc
        refine Sat.exit ?_
        rw [show (ms.length - i).toNat = 0 by omega] at hi
        simp -dsimp [t0, t3, hn, ln, ← hi, anyFrom]
        exact hk
  rintro T h1 n1 ⟨⟨t0, t3, hn, hk, ln⟩, hfar⟩
  refine Sat.sq ?_
  refine Sat.sq ?_
  refine Sat.reg (by kernel_rfl) ?_
  simp -dsimp [t0]
  refine Sat.ite rfl (fun hc => ?_) (fun hc => ?_)
  · have hc : 20000 < ms.length := by
      have : (20000 : Int) < ms.length := by simpa using hc
      omega
    refine Sat.sq ?_
    refine Sat.reg (by kernel_rfl) ?_
    simp -dsimp
    refine Sat.ret ?_
    try simp -dsimp only [thenH_ret, blockA_ret, thenA_ret]
    refine PureQ.ret (r := .int .i64 (checkM S A J ms)) (by rfl) hk ?_
    simp [checkM, hv, hbad, hfar, hc]
  have hmany : ¬ 20000 < ms.length := by
    have : ¬ (20000 : Int) < ms.length := by simpa using hc
    omega
  have hres : checkM S A J ms = errM S A J ms := by simp [checkM, hv, hbad, hfar, hmany]
  rw [hres]
  refine Sat.skip ?_
  simp -dsimp
  refine Sat.sq ?_
  refine Sat.sq ?_
  refine Sat.reg (by kernel_rfl) ?_
  simp -dsimp [t0]
  refine Sat.block ?_
  refine Sat.loop (ι := Int) (fun i T h' n' => (find T 0 = some (.slice Ad ms.length cd) ∧ find T 3 = some (.pointer (some ⟨n, 0, none⟩)) ∧ h' n = some ⟨[.int .i64 S, .int .i64 A, .int .i64 J], 25, 0, true⟩ ∧ (∀ L, L < n → h' L = h L) ∧ n < n') ∧
      find T 60 = some (.slice Ad ms.length cd) ∧ find T 61 = some (.int .i64 ms.length) ∧ find T 62 = some (.int .i64 i) ∧ 0 ≤ i ∧ i ≤ ms.length ∧ firstErr (err1 S A J ms) (ms.length - i).toNat i = errM S A J ms) (fun i => (ms.length - i).toNat) 0 ?_ ?_
  · refine ⟨⟨t0, t3, hn, hk, ln⟩, rfl, rfl, rfl, by omega, by omega, ?_⟩
    simp [errM]
  · rintro i T h' n' ⟨⟨t0, t3, hn, hk, ln⟩, t16, t17, t18, i0, i1, hi⟩
    refine Sat.lt fun hlt' => ?_
    refine Sat.sq ?_
    refine Sat.reg (by kernel_rfl) ?_
    simp -dsimp [t17, t18]
    refine Sat.sq ?_
    refine Sat.ite rfl (fun hc => ?_) (fun hc => ?_)
    · have hc : i < ms.length := by simpa using hc
      obtain ⟨B, o, sp, b, hB, hbo, am⟩ := hr.mot i0 hc
      have hB' : h' B = some b := by rw [hk B (hlt B b hB)]; exact hB
      have nB := ne2 (show B < n' by have := hlt B b hB; omega)
      have nn := ne2 ln
      rw [firstErr_step hc] at hi
      refine Sat.skip ?_
      simp -dsimp
      refine Sat.sq ?_
      refine Sat.block ?_
      refine Sat.sq ?_
      refine Sat.reg (by kernel_rfl) ?_
      have hb1 : err1 S A J ms i = (stepsM (limM (ms[i.toNat]!).rate S) A J (ms[i.toNat]!).len).2 := rfl
      have hnear := fars_near hfar i i0 hc
      have hrate := rates _ (get_mem i0 hc)
      generalize ms[i.toNat]! = m at *
      simp -dsimp [t16, t18, -indexAddrA, am.idx, ↓am.l38, hB', nB, nn]
      have hk2 : ∀ L, L < n → upd h' n' ⟨m.cells, 38, 0, true⟩ L = h L := keep_upd (by omega) hk
      have hn2 : upd h' n' ⟨m.cells, 38, 0, true⟩ n = some ⟨[.int .i64 S, .int .i64 A, .int .i64 J], 25, 0, true⟩ := by rw [upd_at, if_neg (by omega)]; exact hn
      have hm2 : upd h' n' ⟨m.cells, 38, 0, true⟩ n' = some ⟨m.cells, 38, 0, true⟩ := by rw [upd_at, if_pos rfl]
      have hl2 := lt_fresh (b := ⟨m.cells, 38, 0, true⟩) hlt'
      dsimp only [Mot.cells] at hk2 hn2 hm2 hl2
      generalize upd h' n' _ = g at *
      refine Sat.sq ?_
      refine Sat.drw u43_20 mixed (by kernel_rfl) (by kernel_rfl) (by kernel_rfl) (by kernel_rfl) ?_
      simp -dsimp [hm2]
      refine callD.pure (w68 _ hnear) ?_
      simp -dsimp [hm2, hn2, t3]
      refine callD.pure (w58 _ _ _ _ _ _ _ _ _ _ _ _ hrate) ?_
      simp -dsimp
      obtain ⟨Ag, cg, eg⟩ := gcv_val (n' + 1) 1 (stepsM (limM m.rate S) A J m.len).1.length
      obtain ⟨hsame, hl3⟩ := gc_same (e := 2) (cells := ints (stepsM (limM m.rate S) A J m.len).1) (m := (stepsM (limM m.rate S) A J m.len).1.length) (o := false) hl2
      refine callD.heavy _ _ _ (by omega) (gcu_lt _ _ _ _ _) (w16' _ _ _ _ _ _ false) ?_
      generalize applyU g (gcu (n' + 1) 2 (ints (stepsM (limM m.rate S) A J m.len).1) (stepsM (limM m.rate S) A J m.len).1.length false) = g2 at *
      rw [eg, ← hb1]
      have hk3 : ∀ L, L < n → g2 L = h L := fun L hL => by rw [hsame L (by omega)]; exact hk2 L hL
      have hn3 : g2 n = some ⟨[.int .i64 S, .int .i64 A, .int .i64 J], 25, 0, true⟩ := by rw [hsame n (by omega)]; exact hn2
      simp -dsimp
      refine Sat.sq ?_
      refine Sat.reg (by kernel_rfl) ?_
      simp -dsimp
      refine Sat.ite rfl (fun hq => ?_) (fun hq => ?_)
      · have hq : ¬ err1 S A J ms i = 0 := by simpa using hq
        rw [if_neg hq] at hi
        refine Sat.sq ?_
        refine Sat.reg (by kernel_rfl) ?_
        simp -dsimp
        refine Sat.ret ?_
        try simp -dsimp only [thenH_ret, blockA_ret, thenA_ret]
        refine PureQ.ret (r := .int .i64 (errM S A J ms)) (by rfl) hk3 ?_
        simp [← hi]
      · have hq : err1 S A J ms i = 0 := by simpa using hq
        rw [if_pos hq] at hi
        have W : IntKind.i64.wrap (i + 1) = i + 1 := wrap_in (by omega) (by omega)
        refine Sat.skip ?_
        simp -dsimp
        refine Sat.reg (by kernel_rfl) ?_
        simp -dsimp [t0, t3, t16, t17, t18, W]
        exact ⟨i + 1, ⟨⟨hn3, hk3, by omega⟩, rfl, by omega, by omega, hi⟩, by omega⟩
    · have hc : ¬ i < ms.length := by simpa using hc
      refine Sat.exit ?_
      rw [show (ms.length - i).toNat = 0 by omega] at hi
      simp -dsimp
      refine Sat.sq ?_
      refine Sat.reg (by kernel_rfl) ?_
      simp -dsimp
      refine Sat.ret ?_
      try simp -dsimp only [thenH_ret, blockA_ret, thenA_ret]
      refine PureQ.ret (r := .int .i64 (errM S A J ms)) (by rfl) hk ?_
      simp [← hi, firstErr]

end Go.Proofs.Ytoinimkmoojcoaa
/- Walks, part B13. -/
set_option maxRecDepth 100000
set_option maxHeartbeats 4000000
set_option linter.unusedSimpArgs false
set_option linter.unusedVariables false
namespace Go.Proofs.Ytoinimkmoojcoaa
open Go Go.Dm
attribute [local simp ↓] RunS_nil RunS_op RunS_guard RunT_nil RunT_op RunT_guard opS_call opD_call opS_move opD_move opS_assign opD_assign opS_pick opD_pick opS_nilCheck opD_nilCheck opS_fieldAddr opD_fieldAddr opS_indexAddr opD_indexAddr opS_load opD_load opS_store opD_store opS_alloc opD_alloc opS_box opD_box opS_build opD_build opS_buildSlice opD_buildSlice opS_field opD_field opS_extract opD_extract opS_makeFunc opD_makeFunc opS_slice opD_slice opS_binOp opD_binOp opS_unOp opD_unOp opS_convert opD_convert opS_index opD_index opS_len opD_len opS_append opD_append opS_max opD_max opS_min opD_min obind_some obind_none thenH_normal thenH_ret thenH_exit blockA_normal blockA_ret blockA_exit thenA_normal thenA_ret thenA_exit dstAt_mk dstL_zero dstL_succ
attribute [local simp] undef wantG_bool wantG_undef findO_some calleeS find putA ev closed3 closed2 closed1 closed0 pickA binF unF convF mxF eqNilA fastBin fastUn fastConv intBin argEnv resultsA resultsL resultA notTuple allocs eff
  loadO storeO allocO boxO sliceO indexO indexAddrA loadA storeA newA isAggT nilCheckA lenA evAll evParts aadd gen upd_at upd_upd Value.cells mxV Pairs apart readsS labOf putAt fieldA partA extractA makeFuncA evOpt boundOf sliceA Nat.add_assoc
attribute [local simp] bu107_z bu107_0_1 bu25_0_1_2 bu36_z bu36_0_1 bu36_0_1_2 bu36_0 bu38_z bu38_0_1_2_3_4 bu38_0_1_3 bu38_0_1_3_4 bu38_1_2 bu38_1_2_3 bu52_0_1_10 bu81_0_1 bs22_0_z bs22_1_0 bs22_2_0_1 bs39_1_0 bs39_7_0_1_2_3_4_5_6 bs95_4_0_1_2_3
attribute [local simp ↓] eql107 neq107 eql36 neq36 eql38 neq38 eql25 neq25
attribute [local simp] fa25_0 fa25_1 fa25_2 fa36_0 fa36_1 fa36_2 fa38_0 fa38_1 fa38_2 fa38_3 fa38_4 fa107_0 fa107_1 fa81_0 fa81_1 fa81_2 fa81_3 fa81_4 fa81_5 fa81_6 fa81_7 fa81_8 fa81_9 fa81_10 fa52_0 fa52_1 fa52_2 fa52_3 fa52_4 fa52_5 fa52_6 fa52_7 fa52_8 fa52_9 fa52_10 fa52_11 fa52_12
attribute [local simp] c22 c39 c29 z22 z39 c25 c38 c2 c3 c4 c36 c107 c30 z25 z38 z2 z3 z4 z36 z107 b38 b25 b107 h38 h25 h36 h107 g38 g25 g36 g107 Try.underlying25 Try.underlying38 Try.underlying2 Try.underlying3 Try.underlying4 Try.underlying36 Try.underlying22 Try.underlying39 Try.underlying29 Try.underlying81 Try.underlying107 Try.underlying30
attribute [local simp] mx mn
theorem w44x {h : Heap} {lv : Value} {ms : List Mot} (hr : RO h 9 lv (motCells ms) ms.length) (few : ms.length ≤ 1000000000000) (n : Nat) (hlt : ∀ L b, h L = some b → L < n) :
    ∃ A c us, (Dm.Spec Try.prog 44 [lv] h n fun r h' n' => r = .slice A ms.length c ∧ h' = applyU h us ∧ n' = n + 1) ∧ (∀ u ∈ us, u.1 = n) ∧ RO (applyU h us) 9 (.slice A ms.length c) (motCells ms) ms.length ∧ (∀ L, L < n → applyU h us L = h L) ∧ (∀ L b, applyU h us L = some b → L < n + 1) := by
  have hx := hr.cells
  obtain ⟨A0, c0, e0⟩ := hr.len
  have hn0 : A0 = none → ms.length = 0 ∧ c0 = 0 := by
    obtain ⟨_, A, c, h2, h3, _⟩ := hr
    rw [h2] at e0; injection e0 with e1 e2 e3; subst e1; subst e3; exact h3
  by_cases hA : A0 = none ∨ 0 < ms.length
  · obtain ⟨A, c, eg⟩ := gcv_val n 9 ms.length
    have ro := (gc_ro (h := h) (n := n) (e := 38) hlt (motCells_length ms)).1
    obtain ⟨h1, h2⟩ := gc_same (e := 38) (cells := motCells ms) (m := ms.length) (o := false) hlt
    refine ⟨A, c, gcu n 38 (motCells ms) ms.length false, ?_, ?_, by rw [← eg]; exact ro, h1, h2⟩
    · rw [← eg]; exact w44 lv A0 ms.length c0 (motCells ms) e0 hn0 hA h hx (motCells_length _) (motCells_closed _) few n hlt false
    · intro u hu; unfold gcu at hu; split at hu
      · cases hu
      · simp only [List.mem_cons, List.not_mem_nil, or_false] at hu; subst hu; rfl
  · have hm : ms.length = 0 := by
      rcases Nat.eq_zero_or_pos ms.length with h | h
      · exact h
      · exact absurd (.inr h) hA
    have hA0 : A0 ≠ none := fun h => hA (.inl h)
    have hms : ms = [] := List.eq_nil_of_length_eq_zero hm
    refine ⟨some ⟨n, 0, none⟩, 1, [(n, ⟨[], 38, 0, true⟩)], ?_, by simp, ?_, ?_, ?_⟩
    · refine (w44raw lv A0 ms.length c0 (motCells ms) e0 hn0 h hx (motCells_length _) few n hlt).mono ?_
      rintro r h' n' ⟨_, p2, _⟩
      obtain ⟨h1, h2, h3⟩ := p2 hA0 hm
      exact ⟨by rw [h1, hm], h2, h3⟩
    · subst hms
      exact ⟨rfl, _, _, rfl, fun h => (nomatch h), fun h => absurd h (by simp)⟩
    · intro L hL; show upd h n _ L = _; rw [upd_at, if_neg (by omega)]
    · intro L b hb
      have hb : upd h n ⟨[], 38, 0, true⟩ L = some b := hb
      rw [upd_at] at hb; split at hb
      · omega
      · have := hlt L b hb; omega
theorem checkM_ok {S A J : Int} {l : List Mot} (h : checkM S A J l = 0) : validM S A J = true ∧ badM l = false ∧ farsM l = false ∧ ¬ 20000 < l.length ∧ errM S A J l = 0 := by
  unfold checkM at h
  cases hv : validM S A J with
  | false => simp [hv] at h
  | true =>
    cases hb : badM l with
    | true => simp [hv, hb] at h
    | false =>
      cases hf : farsM l with
      | true => simp [hv, hb, hf] at h
      | false =>
        by_cases h20 : 20000 < l.length
        · simp [hv, hb, hf, h20] at h
        · simp [hv, hb, hf, h20] at h
          exact ⟨rfl, rfl, rfl, h20, h⟩
def firstFr (ms : List Mot) : P3 := if 0 < ms.length then (ms[0]!).fr else ⟨0, 0, 0⟩
def CS.new (S A J : Int) (ms : List Mot) : CS := CS.skip ⟨ms, S, A, J, 0, 0, [], 0, false, false, false, [], firstFr ms⟩
def newPost (S A J : Int) (ms : List Mot) (h : Heap) (n : Nat) (r : Value) (h' : Heap) (n' : Nat) : Prop :=
  n ≤ n' ∧ (∀ L, L < n → h' L = h L) ∧ ((checkM S A J ms ≠ 0 ∧ r = .tuple #[.pointer none, .int .i64 (checkM S A J ms)]) ∨
    (checkM S A J ms = 0 ∧ ∃ C, n ≤ C ∧ C < n' ∧ r = .tuple #[pC C, .int .i64 0] ∧ ∃ mv pl pv, CRepV h' C C (CS.new S A J ms) mv pl pv))
abbrev u13_4 : List (Nat × Nat) := [(1, 2)]
theorem w13 {h : Heap} {lv : Value} {ms : List Mot} {S A J : Int} (hr : RO h 9 lv (motCells ms) ms.length) (few : ms.length ≤ 1000000) (rates : ∀ m ∈ ms, m.rate ≤ 9223372036854775807) (n : Nat) :
    Dm.Spec Try.prog 13 [lv, .agg #[.int .i64 S, .int .i64 A, .int .i64 J]] h n (newPost S A J ms h n) := by
  refine Spec.body Try.func13 rfl (by kernel_rfl) Try.ntmps13 (by rw [Try.results13]) (Nat.le_of_ble_eq_true rfl) ?_
  refine Sat.lt fun hlt => ?_
  have hlB := lt_fresh (b := ⟨[.int .i64 S, .int .i64 A, .int .i64 J], 25, 0, true⟩) hlt
  have hkB : ∀ L, L < n → upd h n ⟨[.int .i64 S, .int .i64 A, .int .i64 J], 25, 0, true⟩ L = h L := keep_upd (by omega) keep_refl
  have hB : upd h n ⟨[.int .i64 S, .int .i64 A, .int .i64 J], 25, 0, true⟩ n = some ⟨[.int .i64 S, .int .i64 A, .int .i64 J], 25, 0, true⟩ := by rw [upd_at, if_pos rfl]
  have hrB : RO (upd h n ⟨[.int .i64 S, .int .i64 A, .int .i64 J], 25, 0, true⟩) 9 lv (motCells ms) ms.length := hr.fz (fun L b x _ => by rw [hkB L (hlt L b x)]; exact x)
  refine Sat.sq ?_
  refine Sat.reg (by kernel_rfl) ?_
  simp -dsimp
  generalize upd h n ⟨[.int .i64 S, .int .i64 A, .int .i64 J], 25, 0, true⟩ = g at *
  refine Sat.sq ?_
  refine Sat.sq ?_
  refine Sat.reg (by kernel_rfl) ?_
  simp -dsimp [hB]
  refine (w43 hrB few rates _).useH ?_
  simp -dsimp
  refine Sat.sq ?_
  refine Sat.reg (by kernel_rfl) ?_
  simp -dsimp
  refine Sat.ite rfl (fun hq => ?_) (fun hq => ?_)
  · have hq : ¬ checkM S A J ms = 0 := by simpa using hq
    refine Sat.sq ?_
    refine Sat.reg (by kernel_rfl) ?_
    simp -dsimp
    refine Sat.ret ?_
    try simp -dsimp only [thenH_ret, blockA_ret, thenA_ret]
    refine RetQ.ret (r := .tuple #[.pointer none, .int .i64 (checkM S A J ms)]) (by rfl) ⟨by omega, hkB, .inl ⟨hq, rfl⟩⟩
  have hq : checkM S A J ms = 0 := by simpa using hq
  refine Sat.skip ?_
  simp -dsimp
  refine Sat.sq ?_
  refine Sat.drw u13_4 mixed (by kernel_rfl) (by kernel_rfl) (by kernel_rfl) (by kernel_rfl) ?_
  obtain ⟨Ac, cc, us, hcl, hus, hrc, hsame, hltc⟩ := w44x hrB (by omega) (n + 1) hlB
  simp -dsimp
  refine callD.heavy _ us _ (by omega) (fun u hu => by rw [hus u hu]; omega) hcl ?_
  have hBc : applyU g us n = some ⟨[.int .i64 S, .int .i64 A, .int .i64 J], 25, 0, true⟩ := by rw [hsame n (by omega)]; exact hB
  have hkc : ∀ L, L < n → applyU g us L = h L := fun L hL => by rw [hsame L (by omega)]; exact hkB L hL
  simp -dsimp [hBc]
  refine ⟨fun a b hab => by have := hus _ hab; simp only at this; omega, ?_⟩
  have hfC : Fz (applyU g us) (upd (applyU g us) (n + 2) ⟨cCells (.slice Ac ms.length cc) (.slice none 0 0) (.slice none 0 0) ⟨ms, S, A, J, 0, 0, [], 0, false, false, false, [], ⟨0, 0, 0⟩⟩, 81, 0, true⟩) :=
    fun L b x _ => by rw [upd_at, if_neg (by have := hltc _ _ x; omega)]; exact x
  have hc1 : CRepV (upd (applyU g us) (n + 2) ⟨cCells (.slice Ac ms.length cc) (.slice none 0 0) (.slice none 0 0) ⟨ms, S, A, J, 0, 0, [], 0, false, false, false, [], ⟨0, 0, 0⟩⟩, 81, 0, true⟩) (n + 2) (n + 2) ⟨ms, S, A, J, 0, 0, [], 0, false, false, false, [], ⟨0, 0, 0⟩⟩ (.slice Ac ms.length cc) (.slice none 0 0) (.slice none 0 0) :=
    ⟨by rw [upd_at, if_pos rfl], hrc.fz hfC, RO.nil, .inl ⟨rfl, rfl, rfl⟩⟩
  have hk1 : ∀ L, L < n → upd (applyU g us) (n + 2) ⟨cCells (.slice Ac ms.length cc) (.slice none 0 0) (.slice none 0 0) ⟨ms, S, A, J, 0, 0, [], 0, false, false, false, [], ⟨0, 0, 0⟩⟩, 81, 0, true⟩ L = h L := keep_upd (by omega) hkc
  dsimp only [cCells] at hc1 hk1
  generalize upd (applyU g us) (n + 2) _ = g1 at *
  obtain ⟨Ad, cd, rfl⟩ := hr.len
  refine Sat.join (fun T h' n' => find T 7 = some (pC (n + 2)) ∧ n' = n + 3 ∧ CRepV h' (n + 2) (n + 2) ⟨ms, S, A, J, 0, 0, [], 0, false, false, false, [], firstFr ms⟩ (.slice Ac ms.length cc) (.slice none 0 0) (.slice none 0 0) ∧ ∀ L, L < n → h' L = h L) ?_ ?_
  · refine Sat.sq ?_
    refine Sat.reg (by kernel_rfl) ?_
    simp -dsimp
    refine Sat.ite rfl (fun hq => ?_) (fun hq => ?_)
    · have hq : 0 < ms.length := by
        have : (0 : Int) < ms.length := by simpa using hq
        omega
      obtain ⟨B, o, sp, b, hB, hbo, am⟩ := hr.mot (i := 0) (by omega) (by omega)
      have hB1 : g1 B = some b := by rw [hk1 B (hlt B b hB)]; exact hB
      simp only [Int.toNat_zero] at am
      have hc2 := hc1.put (s' := ⟨ms, S, A, J, 0, 0, [], 0, false, false, false, [], (ms[0]!).fr⟩) rfl RO.nil rfl
      have hk2 : ∀ L, L < n → upd g1 (n + 2) ⟨cCells (.slice Ac ms.length cc) (.slice none 0 0) (.slice none 0 0) ⟨ms, S, A, J, 0, 0, [], 0, false, false, false, [], (ms[0]!).fr⟩, 81, 0, true⟩ L = h L := keep_upd (by omega) hk1
      have hb1 := hc1.blk
      rw [show firstFr ms = (ms[0]!).fr by simp only [firstFr, if_pos hq]]
      generalize ms[0]! = m at *
      dsimp only [Mot.fr] at hc2 hk2
      refine Sat.reg (by kernel_rfl) ?_
      simp -dsimp [hb1, -indexAddrA, am.idx, ↓am.l36, hB1, Mot.fr]
      exact ⟨hc2, hk2⟩
    · have hq : ¬ 0 < ms.length := by
        have : ¬ (0 : Int) < ms.length := by simpa using hq
        omega
      refine Sat.skip ?_
      rw [show firstFr ms = ⟨0, 0, 0⟩ by simp only [firstFr, if_neg hq]]
      exact ⟨rfl, rfl, hc1, hk1⟩
  rintro T h2 n2 ⟨t7, rfl, hc2, hk2⟩
  obtain ⟨_, _, hfar, h20, _⟩ := checkM_ok hq
  have hok := fars_near' hfar
  refine Sat.sq ?_
  refine Sat.reg (by kernel_rfl) ?_
  simp -dsimp [t7]
  refine (w45 hc2 hok (by simp only; omega) ⟨by simp only; omega, by simp only; omega⟩ _).useH ?_
  simp -dsimp [t7]
  refine Sat.sq ?_
  refine Sat.reg (by kernel_rfl) ?_
  simp -dsimp [t7]
  refine Sat.ret ?_
  try simp -dsimp only [thenH_ret, blockA_ret, thenA_ret]
  refine RetQ.ret (r := .tuple #[pC (n + 2), .int .i64 0]) (by rfl) ⟨by omega, keep_upd (by omega) hk2, .inr ⟨hq, n + 2, by omega, by omega, rfl, _, _, _, hc2.put (s' := CS.new S A J ms) rfl RO.nil rfl⟩⟩

end Go.Proofs.Ytoinimkmoojcoaa
/- Walks, part B14. -/
set_option maxRecDepth 100000
set_option maxHeartbeats 4000000
set_option linter.unusedSimpArgs false
set_option linter.unusedVariables false
namespace Go.Proofs.Ytoinimkmoojcoaa
open Go Go.Dm
attribute [local simp ↓] RunS_nil RunS_op RunS_guard RunT_nil RunT_op RunT_guard opS_call opD_call opS_move opD_move opS_assign opD_assign opS_pick opD_pick opS_nilCheck opD_nilCheck opS_fieldAddr opD_fieldAddr opS_indexAddr opD_indexAddr opS_load opD_load opS_store opD_store opS_alloc opD_alloc opS_box opD_box opS_build opD_build opS_buildSlice opD_buildSlice opS_field opD_field opS_extract opD_extract opS_makeFunc opD_makeFunc opS_slice opD_slice opS_binOp opD_binOp opS_unOp opD_unOp opS_convert opD_convert opS_index opD_index opS_len opD_len opS_append opD_append opS_max opD_max opS_min opD_min obind_some obind_none thenH_normal thenH_ret thenH_exit blockA_normal blockA_ret blockA_exit thenA_normal thenA_ret thenA_exit dstAt_mk dstL_zero dstL_succ
attribute [local simp] undef wantG_bool wantG_undef findO_some calleeS find putA ev closed3 closed2 closed1 closed0 pickA binF unF convF mxF eqNilA fastBin fastUn fastConv intBin argEnv resultsA resultsL resultA notTuple allocs eff
  loadO storeO allocO boxO sliceO indexO indexAddrA loadA storeA newA isAggT nilCheckA lenA evAll evParts aadd gen upd_at upd_upd Value.cells mxV Pairs apart readsS labOf putAt fieldA partA extractA makeFuncA evOpt boundOf sliceA Nat.add_assoc
attribute [local simp] bu107_z bu107_0_1 bu25_0_1_2 bu36_z bu36_0_1 bu36_0_1_2 bu36_0 bu38_z bu38_0_1_2_3_4 bu38_0_1_3 bu38_0_1_3_4 bu38_1_2 bu38_1_2_3 bu52_0_1_10 bu81_0_1 bs22_0_z bs22_1_0 bs22_2_0_1 bs39_1_0 bs39_7_0_1_2_3_4_5_6 bs95_4_0_1_2_3
attribute [local simp ↓] eql107 neq107 eql36 neq36 eql38 neq38 eql25 neq25
attribute [local simp] fa25_0 fa25_1 fa25_2 fa36_0 fa36_1 fa36_2 fa38_0 fa38_1 fa38_2 fa38_3 fa38_4 fa107_0 fa107_1 fa81_0 fa81_1 fa81_2 fa81_3 fa81_4 fa81_5 fa81_6 fa81_7 fa81_8 fa81_9 fa81_10 fa52_0 fa52_1 fa52_2 fa52_3 fa52_4 fa52_5 fa52_6 fa52_7 fa52_8 fa52_9 fa52_10 fa52_11 fa52_12
attribute [local simp] c22 c39 c29 z22 z39 c25 c38 c2 c3 c4 c36 c107 c30 z25 z38 z2 z3 z4 z36 z107 b38 b25 b107 h38 h25 h36 h107 g38 g25 g36 g107 Try.underlying25 Try.underlying38 Try.underlying2 Try.underlying3 Try.underlying4 Try.underlying36 Try.underlying22 Try.underlying39 Try.underlying29 Try.underlying81 Try.underlying107 Try.underlying30
attribute [local simp] mx mn
def i64 (x : Int) : Prop := -9223372036854775808 ≤ x ∧ x ≤ 9223372036854775807
structure Mot.Fit (m : Mot) : Prop where
  f : i64 m.fx ∧ i64 m.fy ∧ i64 m.fz
  t : i64 m.tx ∧ i64 m.ty ∧ i64 m.tz
  r : i64 m.rate
  b : i64 m.tool ∧ i64 m.block
theorem w50 (a b : Int) : Pure Try.prog 50 [.int .i64 a, .int .i64 b] (.int .i64 (if a < b then IntKind.i64.wrap (b - a) else IntKind.i64.wrap (a - b))) := by
  refine Pure.of_body Try.func50 rfl (by kernel_rfl) Try.ntmps50 (by rw [Try.results50]) (Nat.le_of_ble_eq_true rfl) fun h n => ?_
  refine Sat.sq ?_
  refine Sat.reg (by kernel_rfl) ?_
  simp -dsimp
  refine Sat.sq ?_
  refine Sat.sq ?_
  refine Sat.reg (by kernel_rfl) ?_
  by_cases hc : a < b
  · simp -dsimp [hc]
    refine Sat.cond (t := true) (by rfl) ?_
    refine Sat.sq ?_
    refine Sat.reg (by kernel_rfl) ?_
    simp -dsimp
    refine Sat.ret ?_
    try simp -dsimp only [thenH_ret, blockA_ret, thenA_ret]
    refine PureQ.ret rfl keep_refl ?_
    simp -dsimp
  · simp -dsimp [hc]
    refine Sat.cond (t := false) (by rfl) ?_
    refine Sat.skip ?_
    simp -dsimp
    refine Sat.sq ?_
    refine Sat.reg (by kernel_rfl) ?_
    simp -dsimp
    refine Sat.ret ?_
    try simp -dsimp only [thenH_ret, blockA_ret, thenA_ret]
    refine PureQ.ret rfl keep_refl ?_
    simp -dsimp
def sizeM (a : Int) : Int := if a < 0 then IntKind.i64.wrap (0 - a) else IntKind.i64.wrap (a - 0)
theorem sizeM_eq {a : Int} (h : i64 a) : (a = -9223372036854775808 ∧ sizeM a = -9223372036854775808) ∨ (a ≠ -9223372036854775808 ∧ sizeM a = max a (-a)) := by
  unfold i64 at h
  by_cases e : a = -9223372036854775808
  · left; subst e; exact ⟨rfl, by decide⟩
  · right
    refine ⟨e, ?_⟩
    unfold sizeM
    split
    · rw [wrap_in (by omega) (by omega)]; omega
    · rw [wrap_in (by omega) (by omega)]; omega
theorem w46 (x y z : Int) (hx : i64 x) (hy : i64 y) (hz : i64 z) : Pure Try.prog 46 [p3 x y z] (.bool (farM x y z)) := by
  refine Pure.of_body Try.func46 rfl (by kernel_rfl) Try.ntmps46 (by rw [Try.results46]) (Nat.le_of_ble_eq_true rfl) fun h n => ?_
  have ex := sizeM_eq hx
  have ey := sizeM_eq hy
  have ez := sizeM_eq hz
  have hw : ∀ a, (if a < 0 then IntKind.i64.wrap (0 - a) else IntKind.i64.wrap (a - 0)) = sizeM a := fun _ => rfl
  refine Sat.sq ?_
  refine Sat.reg (by kernel_rfl) ?_
  simp -dsimp
  refine Sat.sq ?_
  refine Sat.reg (by kernel_rfl) ?_
  simp -dsimp
  refine (w50 ..).useH ?_
  rw [hw]
  by_cases c1 : 10000000 < sizeM x
  · simp -dsimp [c1]
    refine Sat.ret (PureQ.ret (r := .bool (farM x y z)) rfl (keep_upd (by omega) keep_refl) ?_)
    simp [farM]; omega
  simp -dsimp [c1]
  refine (w50 ..).useH ?_
  rw [hw]
  by_cases c2 : 10000000 < sizeM y
  · simp -dsimp [c2]
    refine Sat.ret (PureQ.ret (r := .bool (farM x y z)) rfl (keep_upd (by omega) keep_refl) ?_)
    simp [farM]; omega
  simp -dsimp [c2]
  refine (w50 ..).useH ?_
  rw [hw]
  by_cases c3 : 10000000 < sizeM z
  · simp -dsimp [c3]
    refine Sat.ret (PureQ.ret (r := .bool (farM x y z)) rfl (keep_upd (by omega) keep_refl) ?_)
    simp [farM]; omega
  by_cases d1 : x = -9223372036854775808
  · simp -dsimp [c3, d1]
    refine Sat.ret (PureQ.ret (r := .bool (farM x y z)) rfl (keep_upd (by omega) keep_refl) ?_)
    simp [farM]; omega
  by_cases d2 : y = -9223372036854775808
  · simp -dsimp [c3, d1, d2]
    refine Sat.ret (PureQ.ret (r := .bool (farM x y z)) rfl (keep_upd (by omega) keep_refl) ?_)
    simp [farM]; omega
  have e : farM x y z = decide (z = -9223372036854775808) := by
    rw [Bool.eq_iff_iff]; simp only [farM, Bool.or_eq_true, decide_eq_true_eq]; omega
  simp -dsimp [c3, d1, d2]
  refine Sat.ret (PureQ.ret (r := .bool (farM x y z)) rfl (keep_upd (by omega) keep_refl) ?_)
  rw [e]; simp [Bool.beq_eq_decide_eq, d1, d2]
abbrev u17_1 : List (Nat × Nat) := [(6, 9), (6, 12), (6, 16), (13, 16), (6, 19), (13, 19)]
theorem sq_abs (a b : Int) : (if a < b then (b - a) * (b - a) else (a - b) * (a - b)) = (b - a) * (b - a) := by
  split
  · rfl
  · rw [← Int.neg_mul_neg]; congr 1 <;> omega
theorem w17 (m : Mot) (hm : m.near) : Pure Try.prog 17 [m.v] (.int .i64 m.len) := by
  refine Pure.of_body Try.func17 rfl (by kernel_rfl) Try.ntmps17 (by rw [Try.results17]) (Nat.le_of_ble_eq_true rfl) fun h n => ?_
  obtain ⟨s0, s1⟩ := Mot.sum_in hm
  obtain ⟨q1, q1'⟩ := sq_in hm.1.1 hm.2.1
  obtain ⟨q2, q2'⟩ := sq_in hm.1.2.1 hm.2.2.1
  obtain ⟨q3, q3'⟩ := sq_in hm.1.2.2 hm.2.2.2
  have hm' := hm
  simp only [Mot.near, inR] at hm'
  have W : ∀ a b : Int, -10000000 ≤ a ∧ a ≤ 10000000 → -10000000 ≤ b ∧ b ≤ 10000000 → (if a < b then IntKind.i64.wrap (b - a) else IntKind.i64.wrap (a - b)) = (if a < b then b - a else a - b) := by
    intro a b ha hb
    rw [wrap_in (x := b - a) (by omega) (by omega), wrap_in (x := a - b) (by omega) (by omega)]
  have SQ : ∀ a b : Int, (if a < b then b - a else a - b) * (if a < b then b - a else a - b) = (b - a) * (b - a) := by
    intro a b; rw [← sq_abs a b]; split <;> rfl
  refine Sat.sq ?_
  refine Sat.reg (by kernel_rfl) ?_
  simp -dsimp
  refine Sat.sq ?_
  refine Sat.drw u17_1 mixed (by kernel_rfl) (by kernel_rfl) (by kernel_rfl) (by kernel_rfl) ?_
  simp -dsimp
  refine callD.pure (w50 _ _) ?_
  rw [W _ _ hm'.1.1 hm'.2.1]
  simp -dsimp
  refine callD.pure (w50 _ _) ?_
  rw [W _ _ hm'.1.2.1 hm'.2.2.1]
  simp -dsimp
  refine callD.pure (w50 _ _) ?_
  rw [W _ _ hm'.1.2.2 hm'.2.2.2]
  simp -dsimp
  refine Sat.sq ?_
  refine Sat.reg (by kernel_rfl) ?_
  simp -dsimp [SQ]
  simp -dsimp (disch := omega) only [wrap_in]
  rw [show (m.tx - m.fx) * (m.tx - m.fx) + (m.ty - m.fy) * (m.ty - m.fy) + (m.tz - m.fz) * (m.tz - m.fz) = m.sum from rfl]
  have hlen : m.len = bis (fun x => decide (m.sum ≤ x * x)) 27 0 40000000 := rfl
  generalize m.sum = s at *
  refine Sat.sq ?_
  refine Sat.reg (by kernel_rfl) ?_
  simp -dsimp
  refine Sat.sq ?_
  refine Sat.block ?_
  refine Sat.loop (ι := Nat × Int × Int) (fun i T h' n' => find T 6 = some (.int .i64 s) ∧ find T 7 = some (.int .i64 i.2.1) ∧ find T 8 = some (.int .i64 i.2.2) ∧ (∀ L, L < n → h' L = h L) ∧ 0 ≤ i.2.1 ∧ i.2.1 ≤ i.2.2 ∧ i.2.2 ≤ 40000000 ∧ i.2.2 - i.2.1 < 2 ^ i.1 ∧
    bis (fun x => decide (s ≤ x * x)) i.1 i.2.1 i.2.2 = m.len) (fun i => i.1) (27, 0, 40000000) ?_ ?_
  · refine ⟨rfl, rfl, rfl, keep_upd (by omega) keep_refl, by simp only; omega, by simp only; omega, by simp only; omega, by show (40000000 : Int) - 0 < 134217728; omega, hlen.symm⟩
  · rintro ⟨k, lo, hi⟩ T h' n' ⟨t6, t7, t8, hk, r0, r1, r2, hw, hb⟩
    simp only at t7 t8 r0 r1 r2 hw hb
    refine Sat.sq ?_
    refine Sat.sq ?_
    refine Sat.reg (by kernel_rfl) ?_
    simp -dsimp [t7, t8]
    refine Sat.ite rfl (fun hc => ?_) (fun hc => ?_)
    · have hc : lo < hi := by simpa using hc
      obtain ⟨k, rfl⟩ : ∃ k', k = k' + 1 := by
        cases k with
        | zero => simp at hw; omega
        | succ k => exact ⟨k, rfl⟩
      rw [Int.pow_succ] at hw
      rw [bis, if_pos hc] at hb
      have hmid : 0 ≤ (lo + hi) / 2 ∧ (lo + hi) / 2 ≤ 40000000 := by omega
      have hsq : 0 ≤ (lo + hi) / 2 * ((lo + hi) / 2) ∧ (lo + hi) / 2 * ((lo + hi) / 2) ≤ 40000000 * 40000000 := ⟨Int.mul_nonneg (by omega) (by omega), Int.mul_le_mul (by omega) (by omega) (by omega) (by omega)⟩
      have W1 : IntKind.i64.wrap (lo + hi) = lo + hi := wrap_in (by omega) (by omega)
      have W2 : IntKind.i64.wrap ((lo + hi) / 2) = (lo + hi) / 2 := wrap_in (by omega) (by omega)
      have W3 : IntKind.i64.wrap ((lo + hi) / 2 * ((lo + hi) / 2)) = (lo + hi) / 2 * ((lo + hi) / 2) := wrap_in (by omega) (by omega)
      have W4 : IntKind.i64.wrap ((lo + hi) / 2 + 1) = (lo + hi) / 2 + 1 := wrap_in (by omega) (by omega)
      have D : (lo + hi).tdiv 2 = (lo + hi) / 2 := Int.tdiv_eq_ediv_of_nonneg (by omega)
      refine Sat.skip ?_
      simp -dsimp
      refine Sat.block ?_
      refine Sat.sq ?_
      refine Sat.reg (by kernel_rfl) ?_
      simp -dsimp [t7, t8, W1, D, W2]
      refine Sat.sq ?_
      refine Sat.reg (by kernel_rfl) ?_
      simp -dsimp [t6, W3]
      refine Sat.ite rfl (fun hc => ?_) (fun hc => ?_)
      · have hc : s ≤ (lo + hi) / 2 * ((lo + hi) / 2) := by simpa using hc
        rw [if_pos (by simpa using hc)] at hb
        refine Sat.reg (by kernel_rfl) ?_
        simp -dsimp [t6, t7]
        exact ⟨k, ⟨hk, r0, by omega, by omega, by omega, hb⟩, by omega⟩
      · have hc : ¬ s ≤ (lo + hi) / 2 * ((lo + hi) / 2) := by simpa using hc
        rw [if_neg (by simpa using hc)] at hb
        refine Sat.reg (by kernel_rfl) ?_
        simp -dsimp [t6, t8, W4]
        exact ⟨k, ⟨hk, by omega, by omega, by omega, by omega, hb⟩, by omega⟩
    · have hc : ¬ lo < hi := by simpa using hc
      have e : lo = m.len := by
        rw [← hb]; cases k with
        | zero => rfl
        | succ k => rw [bis, if_neg hc]
      refine Sat.exit ?_
      simp -dsimp
      refine Sat.sq ?_
      refine Sat.reg (by kernel_rfl) ?_
      simp -dsimp [t7]
      refine Sat.ret (PureQ.ret rfl hk ?_)
      simp [e]
def speedM (rate speed : Int) : Int := if 0 < rate ∧ rate < 1000 * speed then (rate + 999) / 1000 else speed
theorem w15 (m : Mot) (speed : Int) (hs : 0 ≤ speed ∧ speed ≤ 100000) : Pure Try.prog 15 [m.v, .int .i64 speed] (.int .i64 (speedM m.rate speed)) := by
  refine Pure.of_body Try.func15 rfl (by kernel_rfl) Try.ntmps15 (by rw [Try.results15]) (Nat.le_of_ble_eq_true rfl) fun h n => ?_
  have W : IntKind.i64.wrap (1000 * speed) = 1000 * speed := wrap_in (by omega) (by omega)
  refine Sat.sq ?_
  refine Sat.reg (by kernel_rfl) ?_
  simp -dsimp
  refine Sat.sq ?_
  refine Sat.sq ?_
  refine Sat.reg (by kernel_rfl) ?_
  by_cases h0 : 0 < m.rate
  · by_cases h1 : m.rate < 1000 * speed
    · have W2 : IntKind.i64.wrap (m.rate + 999) = m.rate + 999 := wrap_in (by omega) (by omega)
      have W3 : IntKind.i64.wrap ((m.rate + 999) / 1000) = (m.rate + 999) / 1000 := wrap_in (by omega) (by omega)
      have D : (m.rate + 999).tdiv 1000 = (m.rate + 999) / 1000 := Int.tdiv_eq_ediv_of_nonneg (by omega)
      simp -dsimp [h0, W, h1]
      refine Sat.cond (t := true) (by rfl) ?_
      refine Sat.sq ?_
      refine Sat.reg (by kernel_rfl) ?_
      simp -dsimp [W2, D, W3]
      refine Sat.ret ?_
      try simp -dsimp only [thenH_ret, blockA_ret, thenA_ret]
      refine PureQ.ret rfl (keep_upd (by omega) keep_refl) ?_
      simp [speedM, h0, h1]
    · simp -dsimp [h0, W, h1]
      refine Sat.cond (t := false) (by rfl) ?_
      refine Sat.skip ?_
      simp -dsimp
      refine Sat.sq ?_
      refine Sat.reg (by kernel_rfl) ?_
      simp -dsimp
      refine Sat.ret (PureQ.ret rfl (keep_upd (by omega) keep_refl) ?_)
      simp [speedM, h1]
  · simp -dsimp [h0]
    refine Sat.cond (t := false) (by rfl) ?_
    refine Sat.skip ?_
    simp -dsimp
    refine Sat.sq ?_
    refine Sat.reg (by kernel_rfl) ?_
    simp -dsimp
    refine Sat.ret (PureQ.ret rfl (keep_upd (by omega) keep_refl) ?_)
    simp [speedM, h0]

end Go.Proofs.Ytoinimkmoojcoaa
/- Walks, part B15. -/
set_option maxRecDepth 100000
set_option maxHeartbeats 4000000
set_option linter.unusedSimpArgs false
set_option linter.unusedVariables false
namespace Go.Proofs.Ytoinimkmoojcoaa
open Go Go.Dm
attribute [local simp ↓] RunS_nil RunS_op RunS_guard RunT_nil RunT_op RunT_guard opS_call opD_call opS_move opD_move opS_assign opD_assign opS_pick opD_pick opS_nilCheck opD_nilCheck opS_fieldAddr opD_fieldAddr opS_indexAddr opD_indexAddr opS_load opD_load opS_store opD_store opS_alloc opD_alloc opS_box opD_box opS_build opD_build opS_buildSlice opD_buildSlice opS_field opD_field opS_extract opD_extract opS_makeFunc opD_makeFunc opS_slice opD_slice opS_binOp opD_binOp opS_unOp opD_unOp opS_convert opD_convert opS_index opD_index opS_len opD_len opS_append opD_append opS_max opD_max opS_min opD_min obind_some obind_none thenH_normal thenH_ret thenH_exit blockA_normal blockA_ret blockA_exit thenA_normal thenA_ret thenA_exit dstAt_mk dstL_zero dstL_succ
attribute [local simp] undef wantG_bool wantG_undef findO_some calleeS find putA ev closed3 closed2 closed1 closed0 pickA binF unF convF mxF eqNilA fastBin fastUn fastConv intBin argEnv resultsA resultsL resultA notTuple allocs eff
  loadO storeO allocO boxO sliceO indexO indexAddrA loadA storeA newA isAggT nilCheckA lenA evAll evParts aadd gen upd_at upd_upd Value.cells mxV Pairs apart readsS labOf putAt fieldA partA extractA makeFuncA evOpt boundOf sliceA Nat.add_assoc
attribute [local simp] bu107_z bu107_0_1 bu25_0_1_2 bu36_z bu36_0_1 bu36_0_1_2 bu36_0 bu38_z bu38_0_1_2_3_4 bu38_0_1_3 bu38_0_1_3_4 bu38_1_2 bu38_1_2_3 bu52_0_1_10 bu81_0_1 bs22_0_z bs22_1_0 bs22_2_0_1 bs39_1_0 bs39_7_0_1_2_3_4_5_6 bs95_4_0_1_2_3
attribute [local simp ↓] eql107 neq107 eql36 neq36 eql38 neq38 eql25 neq25
attribute [local simp] fa25_0 fa25_1 fa25_2 fa36_0 fa36_1 fa36_2 fa38_0 fa38_1 fa38_2 fa38_3 fa38_4 fa107_0 fa107_1 fa81_0 fa81_1 fa81_2 fa81_3 fa81_4 fa81_5 fa81_6 fa81_7 fa81_8 fa81_9 fa81_10 fa52_0 fa52_1 fa52_2 fa52_3 fa52_4 fa52_5 fa52_6 fa52_7 fa52_8 fa52_9 fa52_10 fa52_11 fa52_12
attribute [local simp] c22 c39 c29 z22 z39 c25 c38 c2 c3 c4 c36 c107 c30 z25 z38 z2 z3 z4 z36 z107 b38 b25 b107 h38 h25 h36 h107 g38 g25 g36 g107 Try.underlying25 Try.underlying38 Try.underlying2 Try.underlying3 Try.underlying4 Try.underlying36 Try.underlying22 Try.underlying39 Try.underlying29 Try.underlying81 Try.underlying107 Try.underlying30
attribute [local simp] mx mn
def connM (l : List Mot) : Int := if badM l then 1 else if farsM l then 11 else if 20000 < l.length then 3 else 0
theorem get_fit {l : List Mot} (h : ∀ m ∈ l, m.Fit) {i : Int} (h0 : 0 ≤ i) (h1 : i < l.length) : (l[i.toNat]!).Fit := h _ (get_mem h0 h1)
abbrev u14_4 : List (Nat × Nat) := []
theorem w14 {h : Heap} {lv : Value} {ms : List Mot} (hr : RO h 9 lv (motCells ms) ms.length) (few : ms.length ≤ 9223372036854775807) (fit : ∀ m ∈ ms, m.Fit) (n : Nat) :
    Dm.Spec Try.prog 14 [lv] h n fun r' h' n' => r' = .int .i64 (connM ms) ∧ h' = h ∧ n' = n := by
  refine pureAt Try.func14 rfl (by kernel_rfl) Try.ntmps14 (by rw [Try.results14]) (Nat.le_of_ble_eq_true rfl) ?_
  refine Sat.lt fun hlt => ?_
  obtain ⟨Ad, cd, rfl⟩ := hr.len
  refine Sat.sq ?_
  refine Sat.reg (by kernel_rfl) ?_
  simp -dsimp
  refine Sat.join (fun T h' n' => find T 0 = some (.slice Ad ms.length cd) ∧ h' = h ∧ n' = n ∧ badM ms = false) ?_ ?_
  · refine Sat.sq ?_
    refine Sat.reg (by kernel_rfl) ?_
    simp -dsimp
    refine Sat.block ?_
    refine Sat.loop (ι := Int) (fun i T h' n' => find T 0 = some (.slice Ad ms.length cd) ∧ find T 3 = some (.int .i64 i) ∧ h' = h ∧ n' = n ∧ 0 ≤ i ∧ i ≤ ms.length ∧ anyFrom (bad1 ms) (ms.length - i).toNat i = badM ms) (fun i => (ms.length - i).toNat) 0 ?_ ?_
    · refine ⟨rfl, rfl, rfl, rfl, by omega, by omega, ?_⟩
      simp [badM]
    · rintro i T h' n' ⟨t0, t3, rfl, rfl, i0, i1, hi⟩
      refine Sat.sq ?_
      refine Sat.sq ?_
      refine Sat.reg (by kernel_rfl) ?_
      simp -dsimp [t0, t3]
      refine Sat.ite rfl (fun hc => ?_) (fun hc => ?_)
      · have hc : i < ms.length := by simpa using hc
        obtain ⟨B, o, sp, b, hB, hbo, am⟩ := hr.mot i0 hc
        rw [anyFrom_step hc] at hi
        refine Sat.skip ?_
        simp -dsimp
        refine Sat.sq ?_
        refine Sat.block ?_
        have hb1 : bad1 ms i = (decide ((ms[i.toNat]!).rate < 0) || (decide (0 < i) && decide (¬ (ms[(i - 1).toNat]!).to = (ms[i.toNat]!).fr))) := rfl
        generalize ms[i.toNat]! = m at *
        refine Sat.join (fun T h'' n'' => find T 34 = some (.bool (bad1 ms i)) ∧ find T 0 = some (.slice Ad ms.length cd) ∧ find T 3 = some (.int .i64 i) ∧ h'' = h' ∧ n'' = n') ?_ ?_
        · refine Sat.drw u14_4 mixed (by kernel_rfl) (by kernel_rfl) (by kernel_rfl) (by kernel_rfl) ?_
          by_cases hr1 : m.rate < 0
          · simp -dsimp [t0, t3, -indexAddrA, am.idx, ↓am.l2, hB, hr1, hb1]
          · by_cases hi0 : 0 < i
            · obtain ⟨B2, o2, sp2, b2, hB2, hbo2, am2⟩ := hr.mot (i := i - 1) (by omega) (by omega)
              generalize ms[(i - 1).toNat]! = m2 at *
              have W : IntKind.i64.wrap (i - 1) = i - 1 := wrap_in (by omega) (by omega)
              have e : decide (¬ (m.fx = m2.tx ∧ m.fy = m2.ty ∧ m.fz = m2.tz)) = decide (¬ m2.to = m.fr) := by
                rw [Bool.eq_iff_iff]; simp only [decide_eq_true_eq, P3.eq_iff, Mot.to, Mot.fr]; omega
              simp -dsimp [t0, t3, hr1, hi0, W, -indexAddrA, am.idx, ↓am.l2, ↓am.l36, hB, am2.idx, ↓am2.l36', hB2, hb1, ← e]
            · simp -dsimp [t0, t3, -indexAddrA, am.idx, ↓am.l2, hB, hr1, hi0, hb1]
        rintro T2 h2 n2 ⟨t34, t0, t3, rfl, rfl⟩
        cases hbd : bad1 ms i
        · rw [hbd, Bool.false_or] at hi
          rw [hbd] at t34
          refine Sat.cond (t := false) t34 ?_
          refine Sat.skip ?_
          simp -dsimp
          have W : IntKind.i64.wrap (i + 1) = i + 1 := wrap_in (by omega) (by omega)
          refine Sat.reg (by kernel_rfl) ?_
          simp -dsimp [t0, t3, W]
          exact ⟨i + 1, ⟨rfl, by omega, by omega, hi⟩, by omega⟩
        · rw [hbd, Bool.true_or] at hi
          rw [hbd] at t34
          refine Sat.cond (t := true) t34 ?_
          refine Sat.sq ?_
          refine Sat.reg (by kernel_rfl) ?_
          simp -dsimp
          refine Sat.ret ?_
          try simp -dsimp only [thenH_ret, blockA_ret, thenA_ret]
          refine PureQ.ret (r := .int .i64 (connM ms)) (by rfl) keep_refl ?_
          simp [connM, ← hi]
      · have hc : ¬ i < ms.length := by simpa using hc
        refine Sat.exit ?_
        rw [show (ms.length - i).toNat = 0 by omega] at hi
        simp -dsimp [t0, ← hi, anyFrom]
  rintro T h1 n1 ⟨t0, rfl, rfl, hbad⟩
  refine Sat.join (fun T h' n' => find T 0 = some (.slice Ad ms.length cd) ∧ h' = h1 ∧ n' = n1 ∧ farsM ms = false) ?_ ?_
  · refine Sat.sq ?_
    refine Sat.reg (by kernel_rfl) ?_
    simp -dsimp
    refine Sat.block ?_
    refine Sat.loop (ι := Int) (fun i T h' n' => find T 0 = some (.slice Ad ms.length cd) ∧ find T 4 = some (.int .i64 i) ∧ h' = h1 ∧ n' = n1 ∧ 0 ≤ i ∧ i ≤ ms.length ∧ anyFrom (far1 ms) (ms.length - i).toNat i = farsM ms) (fun i => (ms.length - i).toNat) 0 ?_ ?_
    · refine ⟨t0, rfl, rfl, rfl, by omega, by omega, ?_⟩
      simp [farsM]
    · rintro i T h' n' ⟨t0, t3, rfl, rfl, i0, i1, hi⟩
      refine Sat.sq ?_
      refine Sat.sq ?_
      refine Sat.reg (by kernel_rfl) ?_
      simp -dsimp [t0, t3]
      refine Sat.ite rfl (fun hc => ?_) (fun hc => ?_)
      · have hc : i < ms.length := by simpa using hc
        obtain ⟨B, o, sp, b, hB, hbo, am⟩ := hr.mot i0 hc
        have hfit := get_fit fit i0 hc
        rw [anyFrom_step hc] at hi
        refine Sat.skip ?_
        simp -dsimp
        refine Sat.sq ?_
        refine Sat.block ?_
        have hb1 : far1 ms i = (farM (ms[i.toNat]!).fx (ms[i.toNat]!).fy (ms[i.toNat]!).fz || farM (ms[i.toNat]!).tx (ms[i.toNat]!).ty (ms[i.toNat]!).tz) := rfl
        generalize ms[i.toNat]! = m at *
        refine Sat.join (fun T h'' n'' => find T 54 = some (.bool (far1 ms i)) ∧ find T 0 = some (.slice Ad ms.length cd) ∧ find T 4 = some (.int .i64 i) ∧ h'' = h' ∧ n'' = n') ?_ ?_
        · refine Sat.reg (by kernel_rfl) ?_
          simp -dsimp [t0, t3, -indexAddrA, am.idx, ↓am.l36, hB]
          refine (w46 _ _ _ hfit.f.1 hfit.f.2.1 hfit.f.2.2).useH ?_
          cases hf : farM m.fx m.fy m.fz
          · simp -dsimp [t0, t3, -indexAddrA, am.idx, ↓am.l36', hB]
            refine (w46 _ _ _ hfit.t.1 hfit.t.2.1 hfit.t.2.2).useH ?_
            simp -dsimp [t0, t3, hb1, hf]
          · simp -dsimp [t0, t3, hb1, hf]
        rintro T2 h2 n2 ⟨t34, t0, t3, rfl, rfl⟩
        cases hbd : far1 ms i
        · rw [hbd, Bool.false_or] at hi
          rw [hbd] at t34
          refine Sat.cond (t := false) t34 ?_
          refine Sat.skip ?_
          simp -dsimp
          have W : IntKind.i64.wrap (i + 1) = i + 1 := wrap_in (by omega) (by omega)
          refine Sat.reg (by kernel_rfl) ?_
          simp -dsimp [t0, t3, W]
          exact ⟨i + 1, ⟨rfl, by omega, by omega, hi⟩, by omega⟩
        · rw [hbd, Bool.true_or] at hi
          rw [hbd] at t34
          refine Sat.cond (t := true) t34 ?_
          refine Sat.sq ?_
          refine Sat.reg (by kernel_rfl) ?_
          simp -dsimp
          refine Sat.ret ?_
          try simp -dsimp only [thenH_ret, blockA_ret, thenA_ret]
          refine PureQ.ret (r := .int .i64 (connM ms)) (by rfl) keep_refl ?_
          simp [connM, ← hi, hbad]
      · have hc : ¬ i < ms.length := by simpa using hc
        refine Sat.exit ?_
        rw [show (ms.length - i).toNat = 0 by omega] at hi
        simp -dsimp [t0, ← hi, anyFrom]
  rintro T h1 n1 ⟨t0, rfl, rfl, hfar⟩
  refine Sat.sq ?_
  refine Sat.sq ?_
  refine Sat.reg (by kernel_rfl) ?_
  simp -dsimp [t0]
  refine Sat.ite rfl (fun hc => ?_) (fun hc => ?_)
  · have hc : 20000 < ms.length := by
      have : (20000 : Int) < ms.length := by simpa using hc
      omega
    refine Sat.sq ?_
    refine Sat.reg (by kernel_rfl) ?_
    simp -dsimp
    refine Sat.ret ?_
    try simp -dsimp only [thenH_ret, blockA_ret, thenA_ret]
    refine PureQ.ret (r := .int .i64 (connM ms)) (by rfl) keep_refl ?_
    simp [connM, hbad, hfar, hc]
  have hmany : ¬ 20000 < ms.length := by
    have : ¬ (20000 : Int) < ms.length := by simpa using hc
    omega
  refine Sat.skip ?_
  simp -dsimp
  refine Sat.sq ?_
  refine Sat.reg (by kernel_rfl) ?_
  simp -dsimp
  refine Sat.ret ?_
  try simp -dsimp only [thenH_ret, blockA_ret, thenA_ret]
  refine PureQ.ret (r := .int .i64 (connM ms)) (by rfl) keep_refl ?_
  simp [connM, hbad, hfar, hmany]

end Go.Proofs.Ytoinimkmoojcoaa
/- Walks, part B16. -/
set_option maxRecDepth 100000
set_option maxHeartbeats 4000000
set_option linter.unusedSimpArgs false
set_option linter.unusedVariables false
namespace Go.Proofs.Ytoinimkmoojcoaa
open Go Go.Dm
attribute [local simp ↓] RunS_nil RunS_op RunS_guard RunT_nil RunT_op RunT_guard opS_call opD_call opS_move opD_move opS_assign opD_assign opS_pick opD_pick opS_nilCheck opD_nilCheck opS_fieldAddr opD_fieldAddr opS_indexAddr opD_indexAddr opS_load opD_load opS_store opD_store opS_alloc opD_alloc opS_box opD_box opS_build opD_build opS_buildSlice opD_buildSlice opS_field opD_field opS_extract opD_extract opS_makeFunc opD_makeFunc opS_slice opD_slice opS_binOp opD_binOp opS_unOp opD_unOp opS_convert opD_convert opS_index opD_index opS_len opD_len opS_append opD_append opS_max opD_max opS_min opD_min obind_some obind_none thenH_normal thenH_ret thenH_exit blockA_normal blockA_ret blockA_exit thenA_normal thenA_ret thenA_exit dstAt_mk dstL_zero dstL_succ
attribute [local simp] undef wantG_bool wantG_undef findO_some calleeS find putA ev closed3 closed2 closed1 closed0 pickA binF unF convF mxF eqNilA fastBin fastUn fastConv intBin argEnv resultsA resultsL resultA notTuple allocs eff
  loadO storeO allocO boxO sliceO indexO indexAddrA loadA storeA newA isAggT nilCheckA lenA evAll evParts aadd gen upd_at upd_upd Value.cells mxV Pairs apart readsS labOf putAt fieldA partA extractA makeFuncA evOpt boundOf sliceA Nat.add_assoc
attribute [local simp] bu107_z bu107_0_1 bu25_0_1_2 bu36_z bu36_0_1 bu36_0_1_2 bu36_0 bu38_z bu38_0_1_2_3_4 bu38_0_1_3 bu38_0_1_3_4 bu38_1_2 bu38_1_2_3 bu52_0_1_10 bu81_0_1 bs22_0_z bs22_1_0 bs22_2_0_1 bs39_1_0 bs39_7_0_1_2_3_4_5_6 bs95_4_0_1_2_3
attribute [local simp ↓] eql107 neq107 eql36 neq36 eql38 neq38 eql25 neq25
attribute [local simp] fa25_0 fa25_1 fa25_2 fa36_0 fa36_1 fa36_2 fa38_0 fa38_1 fa38_2 fa38_3 fa38_4 fa107_0 fa107_1 fa81_0 fa81_1 fa81_2 fa81_3 fa81_4 fa81_5 fa81_6 fa81_7 fa81_8 fa81_9 fa81_10 fa52_0 fa52_1 fa52_2 fa52_3 fa52_4 fa52_5 fa52_6 fa52_7 fa52_8 fa52_9 fa52_10 fa52_11 fa52_12
attribute [local simp] c22 c39 c29 z22 z39 c25 c38 c2 c3 c4 c36 c107 c30 z25 z38 z2 z3 z4 z36 z107 b38 b25 b107 h38 h25 h36 h107 g38 g25 g36 g107 Try.underlying25 Try.underlying38 Try.underlying2 Try.underlying3 Try.underlying4 Try.underlying36 Try.underlying22 Try.underlying39 Try.underlying29 Try.underlying81 Try.underlying107 Try.underlying30
attribute [local simp] mx mn
theorem Mot.eq_iff (a b : Mot) : a = b ↔ a.fx = b.fx ∧ a.fy = b.fy ∧ a.fz = b.fz ∧ a.tx = b.tx ∧ a.ty = b.ty ∧ a.tz = b.tz ∧ a.rate = b.rate ∧ a.tool = b.tool ∧ a.block = b.block := by cases a; cases b; simp
theorem list_eq_of {a b : List Mot} (hl : a.length = b.length) (h : ∀ i : Int, 0 ≤ i → i < a.length → a[i.toNat]! = b[i.toNat]!) : a = b := by
  apply List.ext_getElem hl
  intro i h1 h2
  have := h (i : Int) (by omega) (by omega)
  simpa [h1, h2] using this
abbrev u25_6 : List (Nat × Nat) := []
theorem w25 {h : Heap} {av bv : Value} {a b : List Mot} (ha : RO h 9 av (motCells a) a.length) (hb : RO h 9 bv (motCells b) b.length) (few : a.length ≤ 1000000000000) (n : Nat) :
    Dm.Spec Try.prog 25 [av, bv] h n fun r' h' n' => r' = .bool (decide (a = b)) ∧ h' = h ∧ n' = n := by
  refine pureAt Try.func25 rfl (by kernel_rfl) Try.ntmps25 (by rw [Try.results25]) (Nat.le_of_ble_eq_true rfl) ?_
  obtain ⟨A1, c1, rfl⟩ := ha.len
  obtain ⟨A2, c2, rfl⟩ := hb.len
  refine Sat.sq ?_
  refine Sat.reg (by kernel_rfl) ?_
  simp -dsimp
  refine Sat.sq ?_
  refine Sat.sq ?_
  refine Sat.reg (by kernel_rfl) ?_
  simp -dsimp
  refine Sat.ite rfl (fun hc => ?_) (fun hc => ?_)
  · have hc : ¬ a.length = b.length := by
      have : ¬ (a.length : Int) = b.length := by simpa using hc
      omega
    refine Sat.sq ?_
    refine Sat.reg (by kernel_rfl) ?_
    simp -dsimp
    refine Sat.ret ?_
    try simp -dsimp only [thenH_ret, blockA_ret, thenA_ret]
    refine PureQ.ret (r := .bool (decide (a = b))) (by rfl) keep_refl ?_
    have : ¬ a = b := fun e => hc (by rw [e])
    simp [this]
  have hl : a.length = b.length := by
    have : (a.length : Int) = b.length := by simpa using hc
    omega
  refine Sat.skip ?_
  simp -dsimp
  refine Sat.sq ?_
  refine Sat.sq ?_
  refine Sat.reg (by kernel_rfl) ?_
  simp -dsimp
  refine Sat.block ?_
  refine Sat.loop (ι := Int) (fun i T h' n' => find T 0 = some (.slice A1 a.length c1) ∧ find T 1 = some (.slice A2 b.length c2) ∧ find T 5 = some (.int .i64 i) ∧ h' = h ∧ n' = n ∧ 0 ≤ i ∧ i ≤ a.length ∧ ∀ j : Int, 0 ≤ j → j < i → a[j.toNat]! = b[j.toNat]!) (fun i => (a.length - i).toNat) 0 ?_ ?_
  · exact ⟨rfl, rfl, rfl, rfl, rfl, by omega, by omega, fun j h1 h2 => by omega⟩
  · rintro i T h' n' ⟨t0, t1, t5, rfl, rfl, i0, i1, hi⟩
    refine Sat.sq ?_
    refine Sat.sq ?_
    refine Sat.reg (by kernel_rfl) ?_
    simp -dsimp [t0, t5]
    refine Sat.ite rfl (fun hc => ?_) (fun hc => ?_)
    · have hc : i < a.length := by simpa using hc
      obtain ⟨B, o, sp, b1, hB, hbo, am⟩ := ha.mot i0 hc
      obtain ⟨B2, o2, sp2, b2, hB2, hbo2, am2⟩ := hb.mot i0 (by omega)
      have hne : ¬ a[i.toNat]! = b[i.toNat]! → ¬ a = b := fun hn e => hn (by rw [e])
      have hstep : a[i.toNat]! = b[i.toNat]! → ∀ j : Int, 0 ≤ j → j < i + 1 → a[j.toNat]! = b[j.toNat]! := by
        intro e j h1 h2
        by_cases hj : j = i
        · rw [hj]; exact e
        · exact hi j h1 (by omega)
      generalize a[i.toNat]! = x at *
      generalize b[i.toNat]! = y at *
      refine Sat.skip ?_
      simp -dsimp
      refine Sat.sq ?_
      refine Sat.block ?_
      refine Sat.sq ?_
      refine Sat.drw u25_6 mixed (by kernel_rfl) (by kernel_rfl) (by kernel_rfl) (by kernel_rfl) ?_
      simp -dsimp [t0, t1, t5, -indexAddrA, am.idx, ↓am.l38, hB, am2.idx, ↓am2.l38, hB2]
      refine Sat.ite rfl (fun hc => ?_) (fun hc => ?_)
      · have hc : ¬ x = y := by
          simp only [Bool.or_eq_true, Bool.not_eq_true', decide_eq_false_iff_not] at hc
          rw [Mot.eq_iff]; omega
        refine Sat.sq ?_
        refine Sat.reg (by kernel_rfl) ?_
        simp -dsimp
        refine Sat.ret ?_
        try simp -dsimp only [thenH_ret, blockA_ret, thenA_ret]
        refine PureQ.ret (r := .bool (decide (a = b))) (by rfl) keep_refl ?_
        simp [hne hc]
      · have hc : x = y := by
          simp only [Bool.or_eq_false_iff, Bool.not_eq_false', decide_eq_true_eq] at hc
          rw [Mot.eq_iff]; omega
        have W : IntKind.i64.wrap (i + 1) = i + 1 := wrap_in (by omega) (by omega)
        refine Sat.skip ?_
        simp -dsimp
        refine Sat.reg (by kernel_rfl) ?_
        simp -dsimp [t0, t1, t5, W]
        exact ⟨i + 1, ⟨rfl, by omega, by omega, by simpa using hstep hc⟩, by omega⟩
    · have hc : ¬ i < a.length := by simpa using hc
      have e : a = b := list_eq_of hl fun j h1 h2 => hi j h1 (by omega)
      refine Sat.exit ?_
      simp -dsimp
      refine Sat.sq ?_
      refine Sat.reg (by kernel_rfl) ?_
      simp -dsimp
      refine Sat.ret ?_
      try simp -dsimp only [thenH_ret, blockA_ret, thenA_ret]
      refine PureQ.ret (r := .bool (decide (a = b))) (by rfl) keep_refl ?_
      simp [e]
/-- The sum of the lengths of the first motions. -/
def totL (l : List Mot) (i : Nat) : Int := ((l.take i).map Mot.len).sum
def shortM (l : List Mot) : Bool := decide (l.length ≤ 8) && !farsM l && decide (totL l l.length ≤ 2000)
theorem totL_step {l : List Mot} {i : Nat} (h : i < l.length) : totL l (i + 1) = totL l i + (l[i]!).len := by
  unfold totL
  rw [List.take_succ_eq_append_getElem h, List.map_append, List.sum_append, getElem!_pos l i h]; simp
theorem w56 {h : Heap} {lv : Value} {ms : List Mot} (hr : RO h 9 lv (motCells ms) ms.length) (few : ms.length ≤ 9223372036854775807) (fit : ∀ m ∈ ms, m.Fit) (n : Nat) :
    Dm.Spec Try.prog 56 [lv] h n fun r' h' n' => r' = .bool (shortM ms) ∧ h' = h ∧ n' = n := by
  refine pureAt Try.func56 rfl (by kernel_rfl) Try.ntmps56 (by rw [Try.results56]) (Nat.le_of_ble_eq_true rfl) ?_
  obtain ⟨Ad, cd, rfl⟩ := hr.len
  refine Sat.sq ?_
  refine Sat.reg (by kernel_rfl) ?_
  simp -dsimp
  refine Sat.sq ?_
  refine Sat.reg (by kernel_rfl) ?_
  simp -dsimp
  refine Sat.join (fun T h' n' => find T 0 = some (.slice Ad ms.length cd) ∧ h' = h ∧ n' = n ∧ (ms.length ≤ 8 → farsM ms = false ∧ find T 3 = some (.int .i64 (totL ms ms.length)))) ?_ ?_
  · refine Sat.sq ?_
    refine Sat.reg (by kernel_rfl) ?_
    simp -dsimp
    refine Sat.block ?_
    refine Sat.loop (ι := Int) (fun i T h' n' => find T 0 = some (.slice Ad ms.length cd) ∧ find T 4 = some (.int .i64 i) ∧ find T 3 = some (.int .i64 (totL ms i.toNat)) ∧ h' = h ∧ n' = n ∧ 0 ≤ i ∧ i ≤ ms.length ∧ 0 ≤ totL ms i.toNat ∧ totL ms i.toNat ≤ i * 40000000 ∧ anyFrom (far1 ms) (ms.length - i).toNat i = farsM ms) (fun i => (ms.length - i).toNat) 0 ?_ ?_
    · refine ⟨rfl, rfl, by simp [totL, find], rfl, rfl, by omega, by omega, by simp [totL], by simp [totL], by simp [farsM]⟩
    · rintro i T h' n' ⟨t0, t4, t3, rfl, rfl, i0, i1, s0, s1, hi⟩
      refine Sat.sq ?_
      refine Sat.sq ?_
      refine Sat.reg (by kernel_rfl) ?_
      by_cases hc : i < ms.length
      · by_cases h8 : ms.length ≤ 8
        · have h8' : (ms.length : Int) ≤ 8 := by omega
          obtain ⟨B, o, sp, b, hB, hbo, am⟩ := hr.mot i0 hc
          have hfit := get_fit fit i0 hc
          rw [anyFrom_step hc] at hi
          have hst := totL_step (l := ms) (i := i.toNat) (by omega)
          simp -dsimp [t0, t4, hc, h8']
          refine Sat.cond (t := true) (by rfl) ?_
          refine Sat.skip ?_
          simp -dsimp
          refine Sat.sq ?_
          refine Sat.block ?_
          have hb1 : far1 ms i = (farM (ms[i.toNat]!).fx (ms[i.toNat]!).fy (ms[i.toNat]!).fz || farM (ms[i.toNat]!).tx (ms[i.toNat]!).ty (ms[i.toNat]!).tz) := rfl
          generalize ms[i.toNat]! = m at *
          refine Sat.sq ?_
          refine Sat.sq ?_
          refine Sat.reg (by kernel_rfl) ?_
          simp -dsimp [t0, t4, -indexAddrA, am.idx, ↓am.l36, hB]
          refine (w46 _ _ _ hfit.f.1 hfit.f.2.1 hfit.f.2.2).useH ?_
          cases hf : farM m.fx m.fy m.fz
          rotate_left
          · simp -dsimp [t0, t4]
            refine Sat.cond (t := true) (by rfl) ?_
            refine Sat.sq ?_
            refine Sat.reg (by kernel_rfl) ?_
            simp -dsimp
            refine Sat.ret ?_
            try simp -dsimp only [thenH_ret, blockA_ret, thenA_ret]
            refine PureQ.ret (r := .bool (shortM ms)) (by rfl) keep_refl ?_
            simp [shortM, ← hi, hb1, hf]
          simp -dsimp [t0, t4, -indexAddrA, am.idx, ↓am.l36', hB]
          refine (w46 _ _ _ hfit.t.1 hfit.t.2.1 hfit.t.2.2).useH ?_
          cases hf2 : farM m.tx m.ty m.tz
          rotate_left
          · simp -dsimp [t0, t4]
            refine Sat.cond (t := true) (by rfl) ?_
            refine Sat.sq ?_
            refine Sat.reg (by kernel_rfl) ?_
            simp -dsimp
            refine Sat.ret ?_
            try simp -dsimp only [thenH_ret, blockA_ret, thenA_ret]
            refine PureQ.ret (r := .bool (shortM ms)) (by rfl) keep_refl ?_
            simp [shortM, ← hi, hb1, hf2]
          have hnear := farM_near hf hf2
          have hlen := Mot.len_in hnear
          rw [hb1, hf, hf2, Bool.false_or, Bool.false_or] at hi
          simp -dsimp
          refine Sat.cond (t := false) (by rfl) ?_
          refine Sat.skip ?_
          simp -dsimp
          refine Sat.reg (by kernel_rfl) ?_
          simp -dsimp [t0, t3, t4, -indexAddrA, am.idx, ↓am.l38, hB]
          refine (w17 _ hnear).useH ?_
          have W : IntKind.i64.wrap (totL ms i.toNat + m.len) = totL ms i.toNat + m.len := wrap_in (by omega) (by omega)
          have W2 : IntKind.i64.wrap (i + 1) = i + 1 := wrap_in (by omega) (by omega)
          simp -dsimp [W]
          refine Sat.reg (by kernel_rfl) ?_
          simp -dsimp [t0, t4, W2]
          have e : (i + 1).toNat = i.toNat + 1 := by omega
          exact ⟨i + 1, ⟨rfl, by rw [e, hst], by omega, by omega, by rw [e, hst]; omega, by rw [e, hst]; omega, hi⟩, by omega⟩
        · have h8' : ¬ (ms.length : Int) ≤ 8 := by omega
          simp -dsimp [t0, t4, hc, h8']
          refine Sat.cond (t := false) (by rfl) ?_
          refine Sat.exit ?_
          simp -dsimp [t0]
          intro h; exact absurd h h8
      · have e : i.toNat = ms.length := by omega
        rw [show (ms.length - i).toNat = 0 by omega] at hi
        rw [e] at t3
        simp -dsimp [t0, t4, hc]
        refine Sat.cond (t := false) (by rfl) ?_
        refine Sat.exit ?_
        simp -dsimp [t0]
        intro _; exact ⟨by rw [← hi]; rfl, t3⟩
  rintro T h1 n1 ⟨t0, rfl, rfl, hres⟩
  refine Sat.sq ?_
  refine Sat.reg (by kernel_rfl) ?_
  by_cases h8 : ms.length ≤ 8
  · obtain ⟨hf, t3⟩ := hres h8
    have h8' : (ms.length : Int) ≤ 8 := by omega
    simp -dsimp [t0, t3, h8']
    refine Sat.ret ?_
    try simp -dsimp only [thenH_ret, blockA_ret, thenA_ret]
    refine PureQ.ret (r := .bool (shortM ms)) (by rfl) keep_refl ?_
    simp [shortM, hf, h8]
  · have h8' : ¬ (ms.length : Int) ≤ 8 := by omega
    simp -dsimp [t0, h8']
    refine Sat.ret ?_
    try simp -dsimp only [thenH_ret, blockA_ret, thenA_ret]
    refine PureQ.ret (r := .bool (shortM ms)) (by rfl) keep_refl ?_
    simp [shortM, h8]

end Go.Proofs.Ytoinimkmoojcoaa
/- The controller's words keep what holds of it. -/
set_option linter.unusedSimpArgs false
set_option linter.unusedVariables false
namespace Go.Proofs.Ytoinimkmoojcoaa
open Go Go.Dm
theorem skipL_spec {ms : List Mot} : ∀ (k : Nat) (i : Int), 0 ≤ i → i ≤ ms.length → ms.length - i ≤ k → i ≤ skipL ms k i ∧ skipL ms k i ≤ ms.length ∧ (skipL ms k i < ms.length → (ms[(skipL ms k i).toNat]!).len ≠ 0) ∧ ∀ q, i ≤ q → q < skipL ms k i → (ms[q.toNat]!).len = 0 := by
  intro k
  induction k with
  | zero => intro i h0 h1 h2; simp only [skipL]; exact ⟨by omega, h1, fun h => by omega, fun q _ _ => by omega⟩
  | succ k ih =>
    intro i h0 h1 h2
    simp only [skipL]
    split
    · rename_i h
      obtain ⟨a, b, c, d⟩ := ih (i + 1) (by omega) (by omega) (by omega)
      refine ⟨by omega, b, c, fun q hq1 hq2 => ?_⟩
      by_cases e : q = i
      · rw [e]; exact h.2
      · exact d q (by omega) hq2
    · rename_i h
      exact ⟨by omega, h1, fun hh hz => h ⟨hh, hz⟩, fun q _ _ => by omega⟩
theorem skip_spec {ms : List Mot} {i : Int} (h0 : 0 ≤ i) (h1 : i ≤ ms.length) : i ≤ skipL ms ms.length i ∧ skipL ms ms.length i ≤ ms.length ∧ (skipL ms ms.length i < ms.length → (ms[(skipL ms ms.length i).toNat]!).len ≠ 0) ∧ ∀ q, i ≤ q → q < skipL ms ms.length i → (ms[q.toNat]!).len = 0 :=
  skipL_spec ms.length i h0 h1 (by omega)
/-- What holds whatever the index is. -/
structure CS.Base (s : CS) : Prop where
  near : ∀ m ∈ s.ms, m.near
  rate : ∀ m ∈ s.ms, 0 ≤ m.rate ∧ m.rate ≤ 9223372036854775807
  few : s.ms.length ≤ 20000
  lim : validM s.S s.A s.J = true
theorem CS.Base.skip {s : CS} (hb : s.Base) (h0 : 0 ≤ s.index) (h1 : s.index ≤ s.ms.length) (hp : s.part = 0) : s.skip.Ok := by
  obtain ⟨a, b, c, d⟩ := skip_spec (ms := s.ms) h0 h1
  refine ⟨hb.near, hb.rate, hb.few, ⟨?_, b⟩, fun hi => ?_, hb.lim⟩
  · show 0 ≤ skipL s.ms s.ms.length s.index; omega
  · have hi : skipL s.ms s.ms.length s.index < s.ms.length := hi
    have hn := hb.near _ (get_mem (i := skipL s.ms s.ms.length s.index) (by omega) hi)
    have hl := Mot.len_in hn
    have := c hi
    show 1 ≤ (s.ms[(skipL s.ms s.ms.length s.index).toNat]!).len ∧ 0 ≤ s.part ∧ s.part ≤ (s.ms[(skipL s.ms s.ms.length s.index).toNat]!).len
    omega
theorem CS.Run.still {s : CS} (ho : s.Ok) (hp : s.plan = []) (hc : s.cov = 0) : s.Run :=
  ⟨ho, ⟨by omega, by rw [hp, hc]; simp⟩, by rw [hp]; simp, by rw [hp]; simp, fun h => by rw [hp, hc] at h; simp at h⟩
theorem CS.Ok.base {s : CS} (h : s.Ok) : s.Base := ⟨h.near, h.rate, h.few, h.lim⟩
theorem push_eq (s : CS) : s.push.ms = s.ms ∧ s.push.S = s.S ∧ s.push.A = s.A ∧ s.push.J = s.J ∧ s.push.index = s.index ∧ s.push.part = s.part ∧ s.push.plan = s.plan ∧ s.push.cov = s.cov ∧ s.push.braking = s.braking ∧ s.push.held = s.held ∧ s.push.broken = s.broken ∧ s.push.last = s.last ∧ s.push.pieces = s.pieces ++ (if s.piece.2 then [s.piece.1] else []) := by
  unfold CS.push; split <;> simp_all
theorem CS.Ok.same {s t : CS} (h : s.Ok) (h1 : t.ms = s.ms) (h2 : t.index = s.index) (h3 : t.part = s.part) (h4 : t.S = s.S ∧ t.A = s.A ∧ t.J = s.J) : t.Ok := by
  obtain ⟨a, b, c, d, e, f⟩ := h
  refine ⟨by rw [h1]; exact a, by rw [h1]; exact b, by rw [h1]; exact c, by rw [h1, h2]; exact d, ?_, by rw [h4.1, h4.2.1, h4.2.2]; exact f⟩
  rw [CS.cur, h1, h2, h3]; exact e
theorem CS.Ok.push {s : CS} (h : s.Ok) : s.push.Ok := by
  obtain ⟨e1, e2, e3, e4, e5, e6, _⟩ := push_eq s
  exact h.same e1 e5 e6 ⟨e2, e3, e4⟩
/-- A controller that has stopped. -/
theorem CS.Run.stop {s : CS} (h : s.Ok) (hi : s.index < s.ms.length) : s.stop.Run := by
  unfold CS.stop
  have h1 : s.stop1.Ok := h.same rfl rfl rfl ⟨rfl, rfl, rfl⟩
  have h2 : s.stop1.push.toPos.Ok := h1.push.same rfl rfl rfl ⟨rfl, rfl, rfl⟩
  obtain ⟨e1, e2, e3, e4, e5, e6, e7, e8, _⟩ := push_eq s.stop1
  have hp : s.stop1.push.toPos.plan = [] := e7
  have hc : s.stop1.push.toPos.cov = 0 := e8
  have hi2 : s.stop1.push.toPos.index < s.stop1.push.toPos.ms.length := by
    show s.stop1.push.index < (s.stop1.push.ms.length : Int); rw [e1, e5]; exact hi
  generalize s.stop1.push.toPos = t at *
  unfold CS.adv
  split
  · have hb : CS.Base { t with index := t.index + 1, part := 0 } := ⟨h2.near, h2.rate, h2.few, h2.lim⟩
    have := hb.skip (by show 0 ≤ t.index + 1; have := h2.idx.1; omega) (by show t.index + 1 ≤ (t.ms.length : Int); omega) rfl
    exact CS.Run.still this hp hc
  · exact CS.Run.still h2 hp hc
theorem adv_eq (s : CS) : s.adv.ms = s.ms ∧ s.adv.S = s.S ∧ s.adv.A = s.A ∧ s.adv.J = s.J ∧ s.adv.plan = s.plan ∧ s.adv.cov = s.cov ∧ s.adv.braking = s.braking ∧ s.adv.held = s.held ∧ s.adv.broken = s.broken ∧ s.adv.last = s.last ∧ s.adv.pieces = s.pieces := by
  unfold CS.adv; split <;> simp [CS.skip]
theorem stop_eq (s : CS) : s.stop.ms = s.ms ∧ s.stop.S = s.S ∧ s.stop.A = s.A ∧ s.stop.J = s.J ∧ s.stop.plan = [] ∧ s.stop.cov = 0 ∧ s.stop.braking = false ∧ s.stop.held = s.held ∧ s.stop.broken = s.broken ∧ s.stop.pieces.length ≤ s.pieces.length + 1 := by
  unfold CS.stop
  obtain ⟨e1, e2, e3, e4, e5, e6, e7, e8, e9, e10, e11, e12, e13⟩ := push_eq s.stop1
  obtain ⟨a1, a2, a3, a4, a5, a6, a7, a8, a9, a10, a11⟩ := adv_eq s.stop1.push.toPos
  rw [a1, a2, a3, a4, a5, a6, a7, a8, a9, a11]
  refine ⟨e1, e2, e3, e4, e7, e8, e9, e10, e11, ?_⟩
  show s.stop1.push.pieces.length ≤ _
  rw [e13]
  have : (s.stop1.pieces) = s.pieces := rfl
  rw [this]
  split <;> simp
theorem CS.Run.tick {s : CS} (hr : s.Run) : s.tick.Run := by
  unfold CS.tick
  split
  · rename_i hm
    obtain ⟨_, hi, hr2, hc⟩ := hr.mv hm
    have hg := hr2.go hc
    unfold CS.rest
    split
    · exact CS.Run.stop hg.ok (hr2.sum hc).1
    · exact hg
  · exact hr
theorem planned_eq (s : CS) : s.planned.ms = s.ms ∧ s.planned.S = s.S ∧ s.planned.A = s.A ∧ s.planned.J = s.J ∧ s.planned.index = s.index ∧ s.planned.part = s.part ∧ s.planned.held = s.held ∧ s.planned.broken = s.broken ∧ s.planned.last = s.last ∧ s.planned.pieces = s.pieces := by
  unfold CS.planned; split <;> simp
theorem rest_eq (s : CS) : s.rest.ms = s.ms ∧ s.rest.S = s.S ∧ s.rest.A = s.A ∧ s.rest.J = s.J ∧ s.rest.held = s.held ∧ s.rest.broken = s.broken ∧ s.rest.pieces.length ≤ s.pieces.length + 1 := by
  obtain ⟨a1, a2, a3, a4, _, _, _, a8, a9, a10⟩ := stop_eq s
  unfold CS.rest; split
  · exact ⟨a1, a2, a3, a4, a8, a9, a10⟩
  · exact ⟨rfl, rfl, rfl, rfl, rfl, rfl, by omega⟩
theorem tick_eq (s : CS) : s.tick.ms = s.ms ∧ s.tick.S = s.S ∧ s.tick.A = s.A ∧ s.tick.J = s.J ∧ s.tick.held = s.held ∧ s.tick.broken = s.broken ∧ s.tick.pieces.length ≤ s.pieces.length + 1 := by
  unfold CS.tick; split
  · obtain ⟨b1, b2, b3, b4, b5, b6, b7⟩ := rest_eq s.planned.go
    obtain ⟨c1, c2, c3, c4, c5, c6, c7, c8, c9, c10⟩ := planned_eq s
    refine ⟨b1.trans c1, b2.trans c2, b3.trans c3, b4.trans c4, b5.trans c7, b6.trans c8, ?_⟩
    have : s.planned.go.pieces = s.pieces := c10
    rw [this] at b7; exact b7
  · exact ⟨rfl, rfl, rfl, rfl, rfl, rfl, by omega⟩
theorem CS.Run.new {S A J : Int} {ms : List Mot} (hc : checkM S A J ms = 0) (hr : ∀ m ∈ ms, 0 ≤ m.rate ∧ m.rate ≤ 9223372036854775807) : (CS.new S A J ms).Run := by
  obtain ⟨h1, h2, h3, h4, h5⟩ := checkM_ok hc
  have hb : CS.Base ⟨ms, S, A, J, 0, 0, [], 0, false, false, false, [], firstFr ms⟩ := ⟨fars_near' h3, hr, by show ms.length ≤ 20000; omega, h1⟩
  exact CS.Run.still (hb.skip (by simp) (by simp) rfl) rfl rfl
/-- Behind the first tick of a plan. -/
def CS.Begun (s : CS) : Prop := s.cov < s.plan.length → s.braking = false → 1 ≤ s.cov
theorem CS.Begun.still {s : CS} (hp : s.plan = []) (hc : s.cov = 0) : s.Begun := fun h => by rw [hp, hc] at h; simp at h
theorem CS.Begun.tick {s : CS} (hr : s.Run) (hg : s.Begun) : s.tick.Begun := by
  unfold CS.tick
  split
  · rename_i hm
    obtain ⟨_, hi, hr2, hc⟩ := hr.mv hm
    unfold CS.rest
    split
    · obtain ⟨_, _, _, _, e5, e6, _⟩ := stop_eq s.planned.go
      exact .still e5 e6
    · intro _ _; show 1 ≤ s.planned.cov + 1; have := hr2.cov.1; omega
  · exact hg
theorem CS.Run.held {s : CS} (hr : s.Run) (b : Bool) : CS.Run { s with held := b } := ⟨hr.ok.same rfl rfl rfl ⟨rfl, rfl, rfl⟩, hr.cov, hr.long, hr.pos, hr.sum⟩
theorem CS.Run.braked {s : CS} (hr : s.Run) (hb : s.brakes = true) : s.braked.Run := by
  simp only [CS.brakes, Bool.and_eq_true, Bool.not_eq_true', Bool.or_eq_false_iff, decide_eq_true_eq] at hb
  obtain ⟨⟨⟨⟨h1, h2⟩, h3⟩, h4⟩, h5⟩ := hb
  obtain ⟨s1, s2, s3, s4, s5⟩ := stop_sum h5
  have hcv : s.cov < s.plan.length := by
    have := hr.cov.2
    simp only [CS.resting, decide_eq_false_iff_not] at h1
    omega
  refine ⟨hr.ok.same rfl rfl rfl ⟨rfl, rfl, rfl⟩, ⟨by show (0:Int) ≤ 0; omega, by show (0:Int) ≤ _; omega⟩, by show s.stopping.1.length ≤ _; unfold CS.stopping; omega, s4, fun _ => ⟨(hr.sum hcv).1, ?_⟩⟩
  show s.part + (s.stopping.1.drop 0).sum ≤ s.cur.len
  rw [List.drop_zero, CS.stopping, s2]
  have : (neededM s.lim s.A s.J s.before s.lastStep).1 = s.needed.1 := rfl
  omega
theorem CS.Run.hold {s : CS} (hr : s.Run) : s.hold.Run := by
  unfold CS.hold
  split
  · exact hr
  · split
    · rename_i hb
      have h2 := hr.braked hb
      split
      · have hcv : s.cov < s.plan.length := by
          simp only [CS.brakes, Bool.and_eq_true, Bool.not_eq_true', Bool.or_eq_false_iff, decide_eq_true_eq] at hb
          have := hr.cov.2
          have h1 := hb.1.1.1.1
          simp only [CS.resting, decide_eq_false_iff_not] at h1
          omega
        exact CS.Run.stop h2.ok (hr.sum hcv).1
      · exact h2
    · exact hr.held true
theorem CS.Begun.hold {s : CS} (hg : s.Begun) : s.hold.Begun := by
  unfold CS.hold
  split
  · exact hg
  · split
    · split
      · obtain ⟨_, _, _, _, e5, e6, _⟩ := stop_eq s.braked
        exact .still e5 e6
      · intro _ h; cases h
    · exact hg
theorem hold_eq (s : CS) : s.hold.ms = s.ms ∧ s.hold.S = s.S ∧ s.hold.A = s.A ∧ s.hold.J = s.J ∧ s.hold.broken = s.broken ∧ s.hold.pieces.length ≤ s.pieces.length + 1 := by
  unfold CS.hold; split
  · exact ⟨rfl, rfl, rfl, rfl, rfl, by omega⟩
  · split
    · split
      · obtain ⟨a1, a2, a3, a4, _, _, _, a8, a9, a10⟩ := stop_eq s.braked
        exact ⟨a1, a2, a3, a4, a9, a10⟩
      · exact ⟨rfl, rfl, rfl, rfl, rfl, by show s.pieces.length ≤ _; omega⟩
    · exact ⟨rfl, rfl, rfl, rfl, rfl, by show s.pieces.length ≤ _; omega⟩
theorem brk_eq (s : CS) : s.brk.ms = s.ms ∧ s.brk.S = s.S ∧ s.brk.A = s.A ∧ s.brk.J = s.J ∧ s.brk.index = s.index ∧ s.brk.part = s.part ∧ s.brk.broken = true ∧ s.brk.pieces.length ≤ s.pieces.length + 1 := by
  unfold CS.brk; split
  · rename_i h; exact ⟨rfl, rfl, rfl, rfl, rfl, rfl, h, by omega⟩
  · obtain ⟨e1, e2, e3, e4, e5, e6, e7, e8, e9, e10, e11, e12, e13⟩ := push_eq s
    refine ⟨e1, e2, e3, e4, e5, e6, rfl, ?_⟩
    show s.push.pieces.length ≤ _
    rw [e13]; split <;> simp
theorem CS.Run.brk {s : CS} (hr : s.Run) : s.brk.Run := by
  obtain ⟨e1, e2, e3, e4, e5, e6, _⟩ := brk_eq s
  have ho : s.brk.Ok := hr.ok.same e1 e5 e6 ⟨e2, e3, e4⟩
  revert ho e1
  unfold CS.brk; split
  · intro _ _; exact hr
  · intro _ ho; exact CS.Run.still ho rfl rfl
end Go.Proofs.Ytoinimkmoojcoaa
/- Walks, part B17. -/
set_option maxRecDepth 100000
set_option maxHeartbeats 4000000
set_option linter.unusedSimpArgs false
set_option linter.unusedVariables false
namespace Go.Proofs.Ytoinimkmoojcoaa
open Go Go.Dm
attribute [local simp ↓] RunS_nil RunS_op RunS_guard RunT_nil RunT_op RunT_guard opS_call opD_call opS_move opD_move opS_assign opD_assign opS_pick opD_pick opS_nilCheck opD_nilCheck opS_fieldAddr opD_fieldAddr opS_indexAddr opD_indexAddr opS_load opD_load opS_store opD_store opS_alloc opD_alloc opS_box opD_box opS_build opD_build opS_buildSlice opD_buildSlice opS_field opD_field opS_extract opD_extract opS_makeFunc opD_makeFunc opS_slice opD_slice opS_binOp opD_binOp opS_unOp opD_unOp opS_convert opD_convert opS_index opD_index opS_len opD_len opS_append opD_append opS_max opD_max opS_min opD_min obind_some obind_none thenH_normal thenH_ret thenH_exit blockA_normal blockA_ret blockA_exit thenA_normal thenA_ret thenA_exit dstAt_mk dstL_zero dstL_succ
attribute [local simp] undef wantG_bool wantG_undef findO_some calleeS find putA ev closed3 closed2 closed1 closed0 pickA binF unF convF mxF eqNilA fastBin fastUn fastConv intBin argEnv resultsA resultsL resultA notTuple allocs eff
  loadO storeO allocO boxO sliceO indexO indexAddrA loadA storeA newA isAggT nilCheckA lenA evAll evParts aadd gen upd_at upd_upd Value.cells mxV Pairs apart readsS labOf putAt fieldA partA extractA makeFuncA evOpt boundOf sliceA Nat.add_assoc
attribute [local simp] bu107_z bu107_0_1 bu25_0_1_2 bu36_z bu36_0_1 bu36_0_1_2 bu36_0 bu38_z bu38_0_1_2_3_4 bu38_0_1_3 bu38_0_1_3_4 bu38_1_2 bu38_1_2_3 bu52_0_1_10 bu81_0_1 bs22_0_z bs22_1_0 bs22_2_0_1 bs39_1_0 bs39_7_0_1_2_3_4_5_6 bs95_4_0_1_2_3
attribute [local simp ↓] eql107 neq107 eql36 neq36 eql38 neq38 eql25 neq25
attribute [local simp] fa25_0 fa25_1 fa25_2 fa36_0 fa36_1 fa36_2 fa38_0 fa38_1 fa38_2 fa38_3 fa38_4 fa107_0 fa107_1 fa81_0 fa81_1 fa81_2 fa81_3 fa81_4 fa81_5 fa81_6 fa81_7 fa81_8 fa81_9 fa81_10 fa52_0 fa52_1 fa52_2 fa52_3 fa52_4 fa52_5 fa52_6 fa52_7 fa52_8 fa52_9 fa52_10 fa52_11 fa52_12
attribute [local simp] c22 c39 c29 z22 z39 c25 c38 c2 c3 c4 c36 c107 c30 z25 z38 z2 z3 z4 z36 z107 b38 b25 b107 h38 h25 h36 h107 g38 g25 g36 g107 Try.underlying25 Try.underlying38 Try.underlying2 Try.underlying3 Try.underlying4 Try.underlying36 Try.underlying22 Try.underlying39 Try.underlying29 Try.underlying81 Try.underlying107 Try.underlying30
attribute [local simp] mx mn
attribute [local simp] Try.underlying23 c23
theorem w22still {h : Heap} {C Lp : Nat} {s : CS} {mv pl pv : Value} (hc : CRepV h C Lp s mv pl pv) (hm : s.broken = true ∨ s.index = s.ms.length ∨ s.resting = true ∧ s.held = true) (n : Nat) :
    Dm.Spec Try.prog 22 [pC C] h n fun r' h' n' => r' = .bool false ∧ h' = h ∧ n' = n := by
  refine pureAt Try.func22 rfl (by kernel_rfl) Try.ntmps22 (by rw [Try.results22]) (Nat.le_of_ble_eq_true rfl) ?_
  have hb := hc.blk
  obtain ⟨A, c, e⟩ := hc.mot.len
  refine Sat.sq ?_
  refine Sat.reg (by kernel_rfl) ?_
  simp -dsimp
  refine Sat.sq ?_
  refine Sat.sq ?_
  refine Sat.drw u22_1 mixed (by kernel_rfl) (by kernel_rfl) (by kernel_rfl) (by kernel_rfl) ?_
  cases hbr : s.broken
  · simp -dsimp [hb, hbr, e]
    refine Sat.ite rfl (fun hi => ?_) (fun hi => ?_)
    · refine Sat.sq ?_
      refine Sat.reg (by kernel_rfl) ?_
      simp -dsimp
      refine Sat.ret ?_
      try simp -dsimp only [thenH_ret, blockA_ret, thenA_ret]
      refine PureQ.ret (r := .bool false) (by rfl) keep_refl (by rfl)
    have hi : ¬ s.index = s.ms.length := by simpa using hi
    obtain ⟨h1, h2⟩ : s.resting = true ∧ s.held = true := by
      rcases hm with h | h | h
      · rw [hbr] at h; cases h
      · exact absurd h hi
      · exact h
    refine Sat.skip ?_
    simp -dsimp
    refine Sat.sq ?_
    refine Sat.sq ?_
    refine Sat.reg (by kernel_rfl) ?_
    simp -dsimp
    refine (w55 hc _).useH ?_
    rw [h1]
    simp -dsimp
    refine Sat.cond (t := true) (by rfl) ?_
    refine Sat.sq ?_
    refine Sat.sq ?_
    refine Sat.reg (by kernel_rfl) ?_
    simp -dsimp [hb, h2]
    refine Sat.cond (t := true) (by rfl) ?_
    refine Sat.sq ?_
    refine Sat.reg (by kernel_rfl) ?_
    simp -dsimp
    refine Sat.ret ?_
    try simp -dsimp only [thenH_ret, blockA_ret, thenA_ret]
    refine PureQ.ret (r := .bool false) (by rfl) keep_refl (by rfl)
  · simp -dsimp [hb, hbr, e]
    refine Sat.cond (t := true) (by rfl) ?_
    refine Sat.sq ?_
    refine Sat.reg (by kernel_rfl) ?_
    simp -dsimp
    refine Sat.ret ?_
    try simp -dsimp only [thenH_ret, blockA_ret, thenA_ret]
    refine PureQ.ret (r := .bool false) (by rfl) keep_refl (by rfl)
abbrev limV (S A J : Int) : Value := .agg #[.int .i64 S, .int .i64 A, .int .i64 J]
abbrev u11_2 : List (Nat × Nat) := [(0, 2)]
theorem w11 (S A J : Int) : Pure Try.prog 11 [limV S A J] (.tuple #[limV S A J, .bool (validM S A J)]) := by
  refine Pure.of_body Try.func11 rfl (by kernel_rfl) Try.ntmps11 (by rw [Try.results11]) (Nat.le_of_ble_eq_true rfl) fun h n => ?_
  refine Sat.sq ?_
  refine Sat.reg (by kernel_rfl) ?_
  simp -dsimp
  refine Sat.sq ?_
  refine Sat.reg (by kernel_rfl) ?_
  simp -dsimp
  refine Sat.sq ?_
  refine Sat.drw u11_2 mixed (by kernel_rfl) (by kernel_rfl) (by kernel_rfl) (by kernel_rfl) ?_
  simp -dsimp
  refine callD.pure (w42 _ _ _) ?_
  simp -dsimp
  refine Sat.ret ?_
  try simp -dsimp only [thenH_ret, blockA_ret, thenA_ret]
  refine PureQ.ret (r := .tuple #[limV S A J, .bool (validM S A J)]) (by rfl) ?_ ?_
  · repeat (first | exact keep_refl | refine keep_upd (by omega) ?_)
  · cases hv : validM S A J <;> simp
theorem RO.reads {h : Heap} {k m : Nat} {v : Value} {cells : List Value} (hr : RO h k v cells m) {g : FuncId} {args : List Value} {r : Value}
    (hs : ∀ h2 n2, RO h2 k v cells m → Dm.Spec Try.prog g args h2 n2 fun r' h' n' => r' = r ∧ h' = h2 ∧ n' = n2) : Reads g args h r := by
  obtain ⟨h1, A, c, h2, h3, h4⟩ := hr
  by_cases hm : 0 < m
  · obtain ⟨a, b, x1, x2, x3, x4⟩ := h4 hm
    exact ⟨[a.block], by simp [x2], fun h2' n2 hh => hs h2' n2 ⟨h1, A, c, h2, h3, fun _ => ⟨a, b, x1, by rw [hh _ (by simp)]; exact x2, x3, x4⟩⟩⟩
  · exact ⟨[], by simp, fun h2' n2 hh => hs h2' n2 ⟨h1, A, c, h2, h3, fun h => absurd h hm⟩⟩
/-- What the statements suppose of motions and limits. -/
def rightM (S A J : Int) (ms : List Mot) : Bool := validM S A J && decide (connM ms = 0) && shortM ms
abbrev u21_2 : List (Nat × Nat) := [(0, 4), (0, 9)]
theorem w21 {h : Heap} {lv : Value} {ms : List Mot} {S A J : Int} (hr : RO h 9 lv (motCells ms) ms.length) (few : ms.length ≤ 9223372036854775807) (fit : ∀ m ∈ ms, m.Fit) (n : Nat) :
    Dm.Spec Try.prog 21 [lv, limV S A J] h n fun r' h' n' => r' = .tuple #[limV S A J, .bool (rightM S A J ms)] ∧ h' = h ∧ n' = n := by
  refine pureAt Try.func21 rfl (by kernel_rfl) Try.ntmps21 (by rw [Try.results21]) (Nat.le_of_ble_eq_true rfl) ?_
  refine Sat.lt fun hlt => ?_
  refine Sat.sq ?_
  refine Sat.reg (by kernel_rfl) ?_
  simp -dsimp
  refine Sat.sq ?_
  refine Sat.reg (by kernel_rfl) ?_
  simp -dsimp
  refine (w11 ..).useH ?_
  simp -dsimp
  have hk : ∀ L, L < n → upd (upd (upd h n ⟨[.int .i64 S, .int .i64 A, .int .i64 J], 23, 0, true⟩) (n + 1) ⟨[.int .i64 0, .int .i64 0, .int .i64 0], 25, 0, true⟩) (n + 2) ⟨[.int .i64 S, .int .i64 A, .int .i64 J], 25, 0, true⟩ L = h L := by
    repeat (first | exact keep_refl | refine keep_upd (by omega) ?_)
  have hB : upd (upd (upd h n ⟨[.int .i64 S, .int .i64 A, .int .i64 J], 23, 0, true⟩) (n + 1) ⟨[.int .i64 0, .int .i64 0, .int .i64 0], 25, 0, true⟩) (n + 2) ⟨[.int .i64 S, .int .i64 A, .int .i64 J], 25, 0, true⟩ (n + 2) = some ⟨[.int .i64 S, .int .i64 A, .int .i64 J], 25, 0, true⟩ := by rw [upd_at, if_pos rfl]
  have hB1 : upd (upd (upd h n ⟨[.int .i64 S, .int .i64 A, .int .i64 J], 23, 0, true⟩) (n + 1) ⟨[.int .i64 0, .int .i64 0, .int .i64 0], 25, 0, true⟩) (n + 2) ⟨[.int .i64 S, .int .i64 A, .int .i64 J], 25, 0, true⟩ (n + 1) = some ⟨[.int .i64 0, .int .i64 0, .int .i64 0], 25, 0, true⟩ := by
    rw [upd_at, if_neg (by omega), upd_at, if_pos rfl]
  generalize upd (upd (upd h n _) _ _) _ _ = g at *
  have hrg : RO g 9 lv (motCells ms) ms.length := hr.fz fun L b x _ => by rw [hk L (hlt L b x)]; exact x
  obtain ⟨F1, hF1, hs1⟩ := hrg.reads (g := 14) fun h2 n2 hr => w14 hr few fit n2
  obtain ⟨F2, hF2, hs2⟩ := hrg.reads (g := 56) fun h2 n2 hr => w56 hr (by omega) fit n2
  refine Sat.sq ?_
  refine Sat.drw u21_2 mixed (by kernel_rfl) (by kernel_rfl) (by kernel_rfl) (by kernel_rfl) ?_
  cases hv : validM S A J
  · simp -dsimp [hB, hB1]
    refine Sat.ret ?_
    try simp -dsimp only [thenH_ret, blockA_ret, thenA_ret]
    refine PureQ.ret (r := .tuple #[limV S A J, .bool (rightM S A J ms)]) (by rfl) (keep_upd (by omega) hk) ?_
    simp [rightM, hv]
  · simp -dsimp [hB, hB1]
    refine callD.reads _ F1 hs1 ?_
    by_cases hcn : connM ms = 0
    · simp -dsimp [hcn]
      refine callD.reads _ F2 hs2 ?_
      simp -dsimp [hB1]
      refine Sat.ret ?_
      try simp -dsimp only [thenH_ret, blockA_ret, thenA_ret]
      refine PureQ.ret (r := .tuple #[limV S A J, .bool (rightM S A J ms)]) (by rfl) (keep_upd (by omega) hk) ?_
      simp [rightM, hv, hcn]
    · simp -dsimp [hcn, hB1]
      refine Sat.ret ?_
      try simp -dsimp only [thenH_ret, blockA_ret, thenA_ret]
      refine PureQ.ret (r := .tuple #[limV S A J, .bool (rightM S A J ms)]) (by rfl) (keep_upd (by omega) hk) ?_
      simp [rightM, hv, hcn]

end Go.Proofs.Ytoinimkmoojcoaa
/- Walks, part B18. -/
set_option maxRecDepth 100000
set_option maxHeartbeats 4000000
set_option linter.unusedSimpArgs false
set_option linter.unusedVariables false
namespace Go.Proofs.Ytoinimkmoojcoaa
open Go Go.Dm
attribute [local simp ↓] RunS_nil RunS_op RunS_guard RunT_nil RunT_op RunT_guard opS_call opD_call opS_move opD_move opS_assign opD_assign opS_pick opD_pick opS_nilCheck opD_nilCheck opS_fieldAddr opD_fieldAddr opS_indexAddr opD_indexAddr opS_load opD_load opS_store opD_store opS_alloc opD_alloc opS_box opD_box opS_build opD_build opS_buildSlice opD_buildSlice opS_field opD_field opS_extract opD_extract opS_makeFunc opD_makeFunc opS_slice opD_slice opS_binOp opD_binOp opS_unOp opD_unOp opS_convert opD_convert opS_index opD_index opS_len opD_len opS_append opD_append opS_max opD_max opS_min opD_min obind_some obind_none thenH_normal thenH_ret thenH_exit blockA_normal blockA_ret blockA_exit thenA_normal thenA_ret thenA_exit dstAt_mk dstL_zero dstL_succ
attribute [local simp] undef wantG_bool wantG_undef findO_some calleeS find putA ev closed3 closed2 closed1 closed0 pickA binF unF convF mxF eqNilA fastBin fastUn fastConv intBin argEnv resultsA resultsL resultA notTuple allocs eff
  loadO storeO allocO boxO sliceO indexO indexAddrA loadA storeA newA isAggT nilCheckA lenA evAll evParts aadd gen upd_at upd_upd Value.cells mxV Pairs apart readsS labOf putAt fieldA partA extractA makeFuncA evOpt boundOf sliceA Nat.add_assoc
attribute [local simp] bu107_z bu107_0_1 bu25_0_1_2 bu36_z bu36_0_1 bu36_0_1_2 bu36_0 bu38_z bu38_0_1_2_3_4 bu38_0_1_3 bu38_0_1_3_4 bu38_1_2 bu38_1_2_3 bu52_0_1_10 bu81_0_1 bs22_0_z bs22_1_0 bs22_2_0_1 bs39_1_0 bs39_7_0_1_2_3_4_5_6 bs95_4_0_1_2_3
attribute [local simp ↓] eql107 neq107 eql36 neq36 eql38 neq38 eql25 neq25
attribute [local simp] fa25_0 fa25_1 fa25_2 fa36_0 fa36_1 fa36_2 fa38_0 fa38_1 fa38_2 fa38_3 fa38_4 fa107_0 fa107_1 fa81_0 fa81_1 fa81_2 fa81_3 fa81_4 fa81_5 fa81_6 fa81_7 fa81_8 fa81_9 fa81_10 fa52_0 fa52_1 fa52_2 fa52_3 fa52_4 fa52_5 fa52_6 fa52_7 fa52_8 fa52_9 fa52_10 fa52_11 fa52_12
attribute [local simp] c22 c39 c29 z22 z39 c25 c38 c2 c3 c4 c36 c107 c30 z25 z38 z2 z3 z4 z36 z107 b38 b25 b107 h38 h25 h36 h107 g38 g25 g36 g107 Try.underlying25 Try.underlying38 Try.underlying2 Try.underlying3 Try.underlying4 Try.underlying36 Try.underlying22 Try.underlying39 Try.underlying29 Try.underlying81 Try.underlying107 Try.underlying30
attribute [local simp] mx mn
/-- The motions of the chapter's example. -/
def awk : List Mot := [⟨0, 0, 0, 30, 0, 0, 100000, 0, 0⟩, ⟨30, 0, 0, 30, 40, 0, 0, 1, 0⟩]
/-- Ticks as long as there are any. -/
def goOn : Nat → CS → CS
  | 0, s => s
  | k + 1, s => if s.moves then goOn k s.tick else s
def goOnN : Nat → CS → Nat
  | 0, _ => 0
  | k + 1, s => if s.moves then goOnN k s.tick + 1 else 0
theorem awk_check : checkM 10 10 10 awk = 0 := by decide +kernel
theorem awk_pos : (CS.new 10 10 10 awk).pos = ⟨0, 0, 0⟩ := by decide +kernel
theorem awk_n : 6 < goOnN 1000 (CS.new 10 10 10 awk) ∧ goOnN 1000 (CS.new 10 10 10 awk) < 1000 := by decide +kernel
theorem awk_end : (goOn 1000 (CS.new 10 10 10 awk)).index = 2 ∧ (goOn 1000 (CS.new 10 10 10 awk)).pos = ⟨30, 40, 0⟩ ∧ (goOn 1000 (CS.new 10 10 10 awk)).done = awk := by decide +kernel
theorem RO.agree {h : Heap} {k m : Nat} {v : Value} {cells : List Value} (hr : RO h k v cells m) : ∃ F : List Nat, (∀ L ∈ F, (h L).isSome = true) ∧ ∀ h2 : Heap, (∀ L ∈ F, h2 L = h L) → RO h2 k v cells m := by
  obtain ⟨h1, A, c, h2, h3, h4⟩ := hr
  by_cases hm : 0 < m
  · obtain ⟨a, b, x1, x2, x3, x4⟩ := h4 hm
    exact ⟨[a.block], by simp [x2], fun h2' hh => ⟨h1, A, c, h2, h3, fun _ => ⟨a, b, x1, by rw [hh _ (by simp)]; exact x2, x3, x4⟩⟩⟩
  · exact ⟨[], by simp, fun h2' hh => ⟨h1, A, c, h2, h3, fun h => absurd h hm⟩⟩
theorem w25r {h : Heap} {av bv : Value} {a b : List Mot} (ha : RO h 9 av (motCells a) a.length) (hb : RO h 9 bv (motCells b) b.length) (few : a.length ≤ 1000000000000) : Reads 25 [av, bv] h (.bool (decide (a = b))) := by
  obtain ⟨F1, f1, g1⟩ := ha.agree
  obtain ⟨F2, f2, g2⟩ := hb.agree
  refine ⟨F1 ++ F2, ?_, fun h2 n2 hh => w25 (g1 h2 fun L hL => hh L (by simp [hL])) (g2 h2 fun L hL => hh L (by simp [hL])) few n2⟩
  intro L hL
  rcases List.mem_append.1 hL with h | h
  · exact f1 L h
  · exact f2 L h
theorem Reads.lt {g : FuncId} {args : List Value} {h : Heap} {r : Value} {n : Nat} (hr : Reads g args h r) (hlt : ∀ L b, h L = some b → L < n) : ∃ F : List Nat, (∀ L ∈ F, L < n) ∧ ∀ h2 n2, (∀ L ∈ F, h2 L = h L) → Dm.Spec Try.prog g args h2 n2 fun r' h' n' => r' = r ∧ h' = h2 ∧ n' = n2 := by
  obtain ⟨F, f1, f2⟩ := hr
  refine ⟨F, fun L hL => ?_, f2⟩
  obtain ⟨b, hb⟩ := Option.isSome_iff_exists.1 (f1 L hL)
  exact hlt L b hb
abbrev u12_8 : List (Nat × Nat) := [(13, 17)]
theorem w12 : Pure Try.prog 12 [] (.bool true) := by
  refine Pure.of_body Try.func12 rfl (by kernel_rfl) Try.ntmps12 (by rw [Try.results12]) (Nat.le_of_ble_eq_true rfl) fun h n => ?_
  refine Sat.lt fun hlt => ?_
  refine Sat.sq ?_
  refine Sat.reg (by kernel_rfl) ?_
  simp -dsimp
  refine Sat.sq ?_
  refine Sat.reg (by kernel_rfl) ?_
  simp -dsimp
  refine Sat.freeze n (b := ⟨motCells awk, 38, 0, true⟩) (by rw [upd_at, if_pos rfl]; rfl) ?_
  rw [upd_upd]
  have hk1 : ∀ L, L < n → upd h n ⟨motCells awk, 38, 0, false⟩ L = h L := keep_upd (by omega) keep_refl
  have hl1 := lt_fresh (b := ⟨motCells awk, 38, 0, false⟩) hlt
  have hro : RO (upd h n ⟨motCells awk, 38, 0, false⟩) 9 (.slice (some ⟨n, 0, none⟩) 2 1) (motCells awk) awk.length :=
    ⟨rfl, some ⟨n, 0, none⟩, 1, rfl, fun h => (nomatch h), fun _ => ⟨⟨n, 0, none⟩, ⟨motCells awk, 38, 0, false⟩, rfl, by rw [upd_at, if_pos rfl], rfl, rfl, (by show 0 + awk.length * 9 ≤ (motCells awk).length; decide), rfl⟩⟩
  dsimp only
  generalize upd h n ⟨motCells awk, 38, 0, false⟩ = g1 at *
  refine Sat.sq ?_
  refine Sat.reg (by kernel_rfl) ?_
  simp -dsimp
  have hrate : ∀ m ∈ awk, 0 ≤ m.rate ∧ m.rate ≤ 9223372036854775807 := by decide
  refine (w13 (S := 10) (A := 10) (J := 10) hro (by decide) (fun m hm => (hrate m hm).2) _).onH ?_
  rintro r h2 n2 ⟨hn2, hk2, ⟨hbad, _⟩ | ⟨_, C, hC, hC2, rfl, mv, pl, pv, hc⟩⟩
  · exact absurd awk_check hbad
  have hrun : (CS.new 10 10 10 awk).Run := CS.Run.new awk_check hrate
  have hp0 : (CS.new 10 10 10 awk).pieces = [] := rfl
  have hro2 : RO h2 9 (.slice (some ⟨n, 0, none⟩) 2 1) (motCells awk) awk.length := hro.fz fun L b x _ => by rw [hk2 L (hl1 L b x)]; exact x
  have hkk : ∀ L, L < n → h2 L = h L := fun L hL => by rw [hk2 L (by omega)]; exact hk1 L hL
  have hpos := awk_pos
  have hN := awk_n
  have hE := awk_end
  generalize CS.new 10 10 10 awk = s0 at *
  obtain ⟨sE, hsE⟩ : ∃ e, goOn 1000 s0 = e := ⟨_, rfl⟩
  obtain ⟨N, hsN⟩ : ∃ e, goOnN 1000 s0 = e := ⟨_, rfl⟩
  rw [hsE] at hE
  rw [hsN] at hN
  simp -dsimp
  refine Sat.sq ?_
  refine Sat.sq ?_
  refine Sat.reg (by kernel_rfl) ?_
  simp -dsimp
  refine (w31 hc hrun.ok _).useH ?_
  rw [hpos]
  simp -dsimp
  refine Sat.cond (t := false) (by rfl) ?_
  refine Sat.skip ?_
  simp -dsimp
  refine Sat.sq ?_
  refine Sat.reg (by kernel_rfl) ?_
  simp -dsimp
  refine Sat.join (fun T h' n' => find T 1 = some (.slice (some ⟨n, 0, none⟩) 2 1) ∧ find T 2 = some (pC C) ∧ find T 4 = some (.int .i64 (N)) ∧ (∀ L, L < n → h' L = h L) ∧ RO h' 9 (.slice (some ⟨n, 0, none⟩) 2 1) (motCells awk) awk.length ∧
    (sE).Run ∧ (sE).pieces.length ≤ 1000 ∧ ∃ Lp mv pl pv, CRepV h' C Lp (sE) mv pl pv) ?_ ?_
  · refine Sat.block ?_
    refine Sat.loop (ι := Nat × CS) (fun i T h' n' => find T 1 = some (.slice (some ⟨n, 0, none⟩) 2 1) ∧ find T 2 = some (pC C) ∧ find T 4 = some (.int .i64 (1000 - i.1)) ∧ (∀ L, L < n → h' L = h L) ∧ RO h' 9 (.slice (some ⟨n, 0, none⟩) 2 1) (motCells awk) awk.length ∧
      i.2.Run ∧ i.2.pieces.length + i.1 ≤ 1000 ∧ goOn i.1 i.2 = sE ∧ 1000 - i.1 + goOnN i.1 i.2 = N ∧ i.1 ≤ 1000 ∧ ∃ Lp mv pl pv, CRepV h' C Lp i.2 mv pl pv ∧ Lp < n' ∧ n ≤ Lp) (fun i => i.1) (1000, s0) ?_ ?_
    · exact ⟨rfl, rfl, rfl, hkk, hro2, hrun, by rw [hp0]; simp, hsE, by rw [← hsN]; simp, by simp, C, mv, pl, pv, hc, by omega, by omega⟩
    · rintro ⟨k, s⟩ T h' n' ⟨t1, t2, t4, hk, hro, hr, hpc, he, hn, hle, Lp, mv, pl, pv, hc, hL1, hL2⟩
      simp only at t4 hpc he hn hle hr hc
      refine Sat.sq ?_
      refine Sat.sq ?_
      refine Sat.reg (by kernel_rfl) ?_
      cases k with
      | zero =>
        simp -dsimp [t4]
        refine Sat.cond (t := false) (by rfl) ?_
        refine Sat.exit ?_
        simp only [goOn] at he
        simp only [goOnN] at hn
        subst he
        have hN0 : N = 1000 := by simpa using hn.symm
        have t4' : find T 4 = some (.int .i64 1000) := by simpa using t4
        simp -dsimp [t1, t2, hN0]
        exact ⟨t4', hk, hro, hr, by omega, Lp, mv, pl, pv, hc⟩
      | succ k =>
        have h1000 : (1000 : Int) - ((k : Int) + 1) < 1000 := by omega
        have t4 : find T 4 = some (.int .i64 (1000 - ((k : Int) + 1))) := by rw [t4]; congr 3
        simp -dsimp [t4, t2, h1000]
        refine (w22 hc hr (by omega) _ hL1).onH ?_
        rintro r h3 n3 ⟨rfl, Lp', pl', pv', hc3, hm3, hL3⟩
        have hgo : goOn (k + 1) s = if s.moves then goOn k s.tick else s := rfl
        have hgn : goOnN (k + 1) s = if s.moves then goOnN k s.tick + 1 else 0 := rfl
        rw [hgo] at he
        rw [hgn] at hn
        have hk3 : ∀ L, L < n → h3 L = h L := fun L hL => by rw [hm3.frame L (by have := hm3.le; omega) (by omega) (by omega)]; exact hk L hL
        have hro3 := hro.fz hm3.fz
        have hL4 : n ≤ Lp' := by rcases hm3.lab with h | h <;> omega
        cases hmv : s.moves
        · have hst : s.tick = s := by simp [CS.tick, hmv]
          rw [hmv] at he hn
          simp only [Bool.false_eq_true, if_false] at he hn
          subst he
          rw [hst] at hc3
          have t4' : (1000 : Int) - ((k : Int) + 1) = N := by omega
          rw [t4'] at t4
          simp -dsimp
          refine Sat.cond (t := false) (by rfl) ?_
          refine Sat.exit ?_
          simp -dsimp [t1, t2, t4]
          exact ⟨hk3, hro3, hr, by omega, Lp', mv, pl', pv', hc3⟩
        · rw [hmv] at he hn
          simp only [if_true] at he hn
          simp -dsimp
          refine Sat.cond (t := true) (by rfl) ?_
          refine Sat.skip ?_
          simp -dsimp
          refine Sat.block ?_
          refine Sat.reg (by kernel_rfl) ?_
          have W : IntKind.i64.wrap (1000 - ((k : Int) + 1) + 1) = 1000 - (k : Int) := by rw [wrap_in (by omega) (by omega)]; omega
          have hp := (tick_eq s).2.2.2.2.2.2
          simp -dsimp [t1, t2, t4, W]
          exact ⟨k, ⟨rfl, hk3, hro3, s.tick, hr.tick, by omega, he, by omega, by omega, Lp', ⟨mv, pl', pv', hc3⟩, hL3, hL4⟩, by omega⟩
  · rintro T h3 n3 ⟨t1, t2, t4, hk, hro, hr, hpc, Lp, mv, pl, pv, hc⟩
    refine Sat.lt fun hlt3 => ?_
    have h6 : (6 : Int) < N := by omega
    have h1000 : (N : Int) < 1000 := by omega
    obtain ⟨F1, hF1, hs1⟩ := (hc.reads (g := 24) fun h2 n2 hc => w24 hc n2).lt hlt3
    obtain ⟨F2, hF2, hs2⟩ := (hc.reads (g := 31) fun h2 n2 hc => w31 hc hr.ok n2).lt hlt3
    obtain ⟨B, o, sp, b, hB, hbo, am⟩ := hro.mot (i := 1) (by omega) (by decide)
    have em : awk[(1 : Int).toNat]! = ⟨30, 0, 0, 30, 40, 0, 0, 1, 0⟩ := rfl
    rw [em] at am
    obtain ⟨e1, e2, e3⟩ := hE
    obtain ⟨Ag, cg, eg⟩ := gcv_val n3 9 sE.done.length
    obtain ⟨rd, hsame, hlt4⟩ := gc_ro (e := 38) hlt3 (motCells_length sE.done)
    have hdone := w20 hc hr.ok (by omega) n3 false
    generalize hg4 : applyU h3 (gcu n3 38 (motCells sE.done) sE.done.length false) = g4 at *
    have hro4 : RO g4 9 (.slice (some ⟨n, 0, none⟩) 2 1) (motCells awk) awk.length := hro.fz fun L b x _ => by rw [hsame L (hlt3 L b x)]; exact x
    rw [eg] at rd hdone
    obtain ⟨F3, hF3, hs3⟩ := (w25r rd hro4 (by rw [e3]; decide)).lt hlt4
    refine Sat.sq ?_
    refine Sat.drw u12_8 mixed (by kernel_rfl) (by kernel_rfl) (by kernel_rfl) (by kernel_rfl) ?_
    simp -dsimp [t4, h6, h1000, t2]
    refine callD.reads _ F1 hs1 ?_
    rw [e1]
    simp -dsimp [t2]
    refine callD.reads _ F2 hs2 ?_
    rw [e2]
    simp -dsimp [t1, t2, -indexAddrA, am.idx, ↓am.l36', hB]
    refine callD.heavy _ (gcu n3 38 (motCells sE.done) sE.done.length false) (n3 + 1) (Nat.le_succ n3) (gcu_lt _ _ _ _ _) (by rw [hg4]; exact hdone) ?_
    rw [hg4]
    simp -dsimp [t1]
    refine callD.reads _ F3 hs3 ?_
    simp -dsimp [e3]
    refine Sat.ret ?_
    try simp -dsimp only [thenH_ret, blockA_ret, thenA_ret]
    refine PureQ.ret (r := .bool true) (by rfl) (fun L hL => ?_) (by rfl)
    have hn3 : n < n3 := by
      obtain ⟨a, c, b, h1, h2, _⟩ := hro.at (i := 0) (by decide)
      injection h1 with h1
      injection h1 with h1
      have := hlt3 _ _ h2
      rw [← h1] at this; exact this
    rw [hsame L (by omega)]; exact hk L hL

end Go.Proofs.Ytoinimkmoojcoaa
/- What the statements suppose, and feed holds that come to rest. -/
set_option linter.unusedSimpArgs false
set_option linter.unusedVariables false
namespace Go.Proofs.Ytoinimkmoojcoaa
open Go Go.Dm
theorem lim_valid {S A J r : Int} (hv : validM S A J = true) : validM (limM r S) A J = true := by
  rw [valid_iff] at *
  unfold limM
  split
  · have : 0 ≤ (r - 1) / 1000 := Int.ediv_nonneg (by omega) (by omega)
    omega
  · exact hv
theorem steps_ok {S A J m : Int} (hv : validM S A J = true) (h0 : 0 ≤ m) (h1 : m ≤ 100000) : (stepsM S A J m).2 = 0 := by
  have hu := simple_pos2 hv
  have ht : ticksM S A J m = ((m + simpleM S A J - 1) / simpleM S A J, 0) := by
    unfold ticksM
    rw [if_neg (by rw [hv]; simp; omega), if_neg (by omega)]
  unfold stepsM
  simp only [ht]
  have hle : ¬ 100000 < (m + simpleM S A J - 1) / simpleM S A J := by
    have : (m + simpleM S A J - 1) / simpleM S A J < m + 1 := by
      rw [Int.ediv_lt_iff_lt_mul hu]
      have h2 : m * 1 ≤ m * simpleM S A J := Int.mul_le_mul_of_nonneg_left (by omega) h0
      have h3 : (m + 1) * simpleM S A J = m * simpleM S A J + simpleM S A J := by rw [Int.add_mul, Int.one_mul]
      omega
    omega
  rw [if_neg (by simp), if_neg hle]
  split <;> rfl
theorem firstErr_zero {f : Int → Int} : ∀ (k : Nat) (i : Int), (∀ j, i ≤ j → j < i + k → f j = 0) → firstErr f k i = 0
  | 0, _, _ => rfl
  | k + 1, i, h => by
    rw [firstErr, if_pos (h i (by omega) (by omega))]
    exact firstErr_zero k (i + 1) fun j h1 h2 => h j (by omega) (by omega)
theorem tot_le {l : List Mot} (hn : ∀ m ∈ l, 0 ≤ m.len) : ∀ i, i < l.length → (l[i]!).len ≤ totL l l.length := by
  have hmono : ∀ k i, i + k ≤ l.length → totL l i ≤ totL l (i + k) := by
    intro k
    induction k with
    | zero => intro i _; exact Int.le_refl _
    | succ k ih =>
      intro i h
      have h1 := ih i (by omega)
      have h2 := totL_step (l := l) (i := i + k) (by omega)
      have h3 := hn _ (by rw [getElem!_pos l (i + k) (by omega)]; exact List.getElem_mem _ : l[i + k]! ∈ l)
      rw [show i + (k + 1) = i + k + 1 by omega]; omega
  have h0 : ∀ i, i ≤ l.length → 0 ≤ totL l i := by
    intro i hi
    have := hmono i 0 (by omega)
    have e : totL l 0 = 0 := by simp [totL]
    rw [Nat.zero_add] at this; omega
  intro i hi
  have h1 := hmono (l.length - (i + 1)) (i + 1) (by omega)
  rw [show i + 1 + (l.length - (i + 1)) = l.length by omega] at h1
  have h2 := totL_step hi
  have h3 := h0 i (by omega)
  omega
structure Right (S A J : Int) (ms : List Mot) : Prop where
  valid : validM S A J = true
  check : checkM S A J ms = 0
  short : ∀ m ∈ ms, m.len ≤ 2000
  few : ms.length ≤ 8
  rate : ∀ m ∈ ms, 0 ≤ m.rate ∧ m.rate ≤ 9223372036854775807
  conn : connM ms = 0
theorem right_ok {S A J : Int} {ms : List Mot} (h : rightM S A J ms = true) (fit : ∀ m ∈ ms, m.Fit) : Right S A J ms := by
  simp only [rightM, Bool.and_eq_true, decide_eq_true_eq, shortM, Bool.not_eq_true'] at h
  obtain ⟨⟨hv, hc⟩, ⟨h8, hf⟩, ht⟩ := h
  have hnear := fars_near' hf
  have hlen : ∀ m ∈ ms, m.len ≤ 2000 := by
    intro m hm
    obtain ⟨i, hi, rfl⟩ := List.mem_iff_getElem.1 hm
    have := tot_le (fun m hm => (Mot.len_in (hnear m hm)).1) i hi
    rw [getElem!_pos ms i hi] at this; omega
  have hbad : badM ms = false := by
    unfold connM at hc
    cases hb : badM ms with
    | false => rfl
    | true => simp [hb] at hc
  have hrate : ∀ m ∈ ms, 0 ≤ m.rate ∧ m.rate ≤ 9223372036854775807 := by
    intro m hm
    refine ⟨?_, (fit m hm).r.2⟩
    obtain ⟨i, hi, rfl⟩ := List.mem_iff_getElem.1 hm
    have := anyFrom_false hbad (i : Int) (by omega) (by omega)
    simp only [bad1, Bool.or_eq_false_iff, decide_eq_false_iff_not] at this
    have := this.1
    rw [show ((i : Int).toNat) = i by omega, getElem!_pos ms i hi] at this
    omega
  refine ⟨hv, ?_, hlen, h8, hrate, hc⟩
  have herr : errM S A J ms = 0 := by
    refine firstErr_zero _ _ fun j h1 h2 => ?_
    have hm := get_mem (l := ms) (i := j) h1 (by omega)
    have h3 := Mot.len_in (hnear _ hm)
    have h4 := hlen _ hm
    exact steps_ok (lim_valid hv) h3.1 (by omega)
  simp only [checkM, hv, hbad, hf, herr, if_true, Bool.false_eq_true, if_false]
  rw [if_neg (by omega)]
/-- How many ticks the present plan still has. -/
def CS.rem (s : CS) : Nat := (s.plan.length - s.cov).toNat
theorem len_le_sum : ∀ {l : List Int}, (∀ x ∈ l, 0 < x) → (l.length : Int) ≤ l.sum
  | [], _ => by simp
  | x :: l, h => by
    have h1 := len_le_sum (l := l) fun y hy => h y (by simp [hy])
    have h2 := h x (by simp)
    simp; omega
theorem CS.Run.rem_le {s : CS} (hr : s.Run) (hs : ∀ m ∈ s.ms, m.len ≤ 2000) : s.rem ≤ 2000 := by
  unfold CS.rem
  by_cases h : s.cov < s.plan.length
  · have hh := hr.sum h
    have h0 := hr.cov.1
    have h1 := len_le_sum (l := s.plan.drop s.cov.toNat) fun x hx => hr.pos x (List.mem_of_mem_drop hx)
    rw [List.length_drop] at h1
    have h2 := hs _ (cur_mem hr.ok.idx.1 hh.1)
    have h3 := (hr.ok.part hh.1).2.1
    omega
  · omega
theorem held_tick {s : CS} (hr : s.Run) (hh : s.held = true) (hm : s.moves = true) : s.tick.rem < s.rem ∧ s.resting = false := by
  have hres : s.resting = false := by
    cases h : s.resting with
    | false => rfl
    | true => simp [CS.moves, h, hh] at hm
  have hc : s.cov < s.plan.length := by
    have := hr.cov.2
    simp only [CS.resting, decide_eq_false_iff_not] at hres
    omega
  refine ⟨?_, hres⟩
  have hp : s.planned = s := by simp [CS.planned, hres]
  have ht : s.tick = s.go.rest := by simp [CS.tick, hm, hp]
  have h0 := hr.cov.1
  rw [ht]
  unfold CS.rest
  split
  · obtain ⟨_, _, _, _, e5, e6, _⟩ := stop_eq s.go
    unfold CS.rem; rw [e5, e6]; simp; omega
  · show (s.plan.length - (s.cov + 1)).toNat < (s.plan.length - s.cov).toNat; omega
theorem goOn_held : ∀ (k : Nat) (s : CS), s.Run → s.held = true → (goOn k s).Run ∧ (goOn k s).held = true ∧ (goOn k s).broken = s.broken ∧ goOnN k s ≤ s.rem ∧ (goOnN k s < k → (goOn k s).moves = false) := by
  intro k
  induction k with
  | zero => intro s hr hh; exact ⟨hr, hh, rfl, Nat.zero_le _, fun h => by simp [goOnN] at h⟩
  | succ k ih =>
    intro s hr hh
    simp only [goOn, goOnN]
    cases hm : s.moves with
    | false => simp only [Bool.false_eq_true, if_false]; exact ⟨hr, hh, by simp, Nat.zero_le _, fun _ => hm⟩
    | true =>
      simp only [if_true]
      obtain ⟨_, _, _, _, e5, e6, _⟩ := tick_eq s
      obtain ⟨a1, a2, a3, a4, a5⟩ := ih s.tick hr.tick (by rw [e5]; exact hh)
      have := (held_tick hr hh hm).1
      exact ⟨a1, a2, a3.trans e6, by omega, fun h => a5 (by omega)⟩
theorem still_rest {s : CS} (hr : s.Run) (hb : s.broken = false) (hm : s.moves = false) (hh : s.held = true) : s.resting = true := by
  cases h : s.resting with
  | true => rfl
  | false =>
    have hc : s.cov < s.plan.length := by
      have := hr.cov.2
      simp only [CS.resting, decide_eq_false_iff_not] at h
      omega
    have := (hr.sum hc).1
    simp [CS.moves, h, hb] at hm
    omega
theorem hold_held {s : CS} (hb : s.broken = false) : s.hold.held = true := by
  unfold CS.hold
  rw [hb]
  simp only [Bool.false_eq_true, if_false]
  split
  · split
    · obtain ⟨_, _, _, _, _, _, _, e8, _⟩ := stop_eq s.braked
      rw [e8]; rfl
    · rfl
  · rfl
/-- The operations of the statement on feed holds. -/
def opR (s : CS) (o : Int) : CS := if o.tmod 6 = 0 then s.hold else if o.tmod 6 = 1 then { s with held := false } else s.tick
/-- What holds between the operations of a statement. -/
structure Keep (S A J : Int) (ms : List Mot) (k : Nat) (s : CS) : Prop where
  run : s.Run
  begun : s.Begun
  ms : s.ms = ms
  lim : s.S = S ∧ s.A = A ∧ s.J = J
  alive : s.broken = false
  few : s.pieces.length ≤ k
theorem Keep.tick {S A J : Int} {ms : List Mot} {k : Nat} {s : CS} (h : Keep S A J ms k s) : Keep S A J ms (k + 1) s.tick := by
  obtain ⟨e1, e2, e3, e4, e5, e6, e7⟩ := tick_eq s
  exact ⟨h.run.tick, h.begun.tick h.run, e1.trans h.ms, ⟨e2.trans h.lim.1, e3.trans h.lim.2.1, e4.trans h.lim.2.2⟩, e6.trans h.alive, by have := h.few; omega⟩
theorem Keep.hold {S A J : Int} {ms : List Mot} {k : Nat} {s : CS} (h : Keep S A J ms k s) : Keep S A J ms (k + 1) s.hold := by
  obtain ⟨e1, e2, e3, e4, e5, e6⟩ := hold_eq s
  exact ⟨h.run.hold, h.begun.hold, e1.trans h.ms, ⟨e2.trans h.lim.1, e3.trans h.lim.2.1, e4.trans h.lim.2.2⟩, e5.trans h.alive, by have := h.few; omega⟩
theorem Keep.resume {S A J : Int} {ms : List Mot} {k : Nat} {s : CS} (h : Keep S A J ms k s) : Keep S A J ms (k + 1) { s with held := false } :=
  ⟨h.run.held false, h.begun, h.ms, h.lim, h.alive, by have := h.few; show s.pieces.length ≤ _; omega⟩
theorem Keep.new {S A J : Int} {ms : List Mot} (h : Right S A J ms) : Keep S A J ms 0 (CS.new S A J ms) :=
  ⟨CS.Run.new h.check h.rate, .still rfl rfl, rfl, ⟨rfl, rfl, rfl⟩, rfl, Nat.le_refl 0⟩
end Go.Proofs.Ytoinimkmoojcoaa
