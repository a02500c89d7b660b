/- Walks, part N1. -/
import Derived.Test.YtoinimkmoojcoaaG8
set_option maxRecDepth 100000
set_option maxHeartbeats 4000000
set_option linter.unusedSimpArgs false
set_option linter.unusedVariables false
namespace Go.Proofs.Ytoinimkmoojcoaa
open Go Go.Dm
attribute [local simp ↓] RunS_nil RunS_op RunS_guard RunT_nil RunT_op RunT_guard opS_call opD_call opS_move opD_move opS_assign opD_assign opS_pick opD_pick opS_nilCheck opD_nilCheck opS_fieldAddr opD_fieldAddr opS_indexAddr opD_indexAddr opS_load opD_load opS_store opD_store opS_alloc opD_alloc opS_box opD_box opS_build opD_build opS_buildSlice opD_buildSlice opS_field opD_field opS_extract opD_extract opS_makeFunc opD_makeFunc opS_slice opD_slice opS_binOp opD_binOp opS_unOp opD_unOp opS_convert opD_convert opS_index opD_index opS_len opD_len opS_append opD_append opS_max opD_max opS_min opD_min obind_some obind_none thenH_normal thenH_ret thenH_exit blockA_normal blockA_ret blockA_exit thenA_normal thenA_ret thenA_exit dstAt_mk dstL_zero dstL_succ
attribute [local simp] undef wantG_bool wantG_undef findO_some calleeS find putA ev closed3 closed2 closed1 closed0 pickA binF unF convF mxF eqNilA fastBin fastUn fastConv intBin argEnv resultsA resultsL resultA notTuple allocs eff
  loadO storeO allocO boxO sliceO indexO indexAddrA loadA storeA newA isAggT nilCheckA lenA evAll evParts aadd gen upd_at upd_upd Value.cells mxV Pairs apart readsS labOf putAt fieldA partA extractA makeFuncA evOpt boundOf sliceA Nat.add_assoc
attribute [local simp] bu107_z bu107_0_1 bu25_0_1_2 bu36_z bu36_0_1 bu36_0_1_2 bu36_0 bu38_z bu38_0_1_2_3_4 bu38_0_1_3 bu38_0_1_3_4 bu38_1_2 bu38_1_2_3 bu52_0_1_10 bu81_0_1 bs22_0_z bs22_1_0 bs22_2_0_1 bs39_1_0 bs39_7_0_1_2_3_4_5_6 bs95_4_0_1_2_3
attribute [local simp ↓] eql107 neq107 eql36 neq36 eql38 neq38 eql25 neq25
attribute [local simp] fa25_0 fa25_1 fa25_2 fa36_0 fa36_1 fa36_2 fa38_0 fa38_1 fa38_2 fa38_3 fa38_4 fa107_0 fa107_1 fa81_0 fa81_1 fa81_2 fa81_3 fa81_4 fa81_5 fa81_6 fa81_7 fa81_8 fa81_9 fa81_10 fa52_0 fa52_1 fa52_2 fa52_3 fa52_4 fa52_5 fa52_6 fa52_7 fa52_8 fa52_9 fa52_10 fa52_11 fa52_12
attribute [local simp] c22 c39 c29 z22 z39 c25 c38 c2 c3 c4 c36 c107 c30 z25 z38 z2 z3 z4 z36 z107 b38 b25 b107 h38 h25 h36 h107 g38 g25 g36 g107 Try.underlying25 Try.underlying38 Try.underlying2 Try.underlying3 Try.underlying4 Try.underlying36 Try.underlying22 Try.underlying39 Try.underlying29 Try.underlying81 Try.underlying107 Try.underlying30
attribute [local simp] mx mn
attribute [local simp] c52 z52 b52 h52 g52 Try.underlying52 Try.underlying44
/-! ### The model of a controller, by the controller that it goes along with -/
abbrev mCells (lv pl dv : Value) (s : CS) (b l : Int) (br : Bool) : List Value := [lv, .int .i64 s.S, .int .i64 s.A, .int .i64 s.J, .int .i64 s.index, .int .i64 s.part, pl, .int .i64 b, .int .i64 l, .bool s.held, .bool br, .bool s.broken, .bool true, .int .i64 s.last.x, .int .i64 s.last.y, .int .i64 s.last.z, dv]
structure MRepV (h : Heap) (M : Nat) (s : CS) (b l : Int) (br : Bool) (lv pl dv : Value) : Prop where
  blk : h M = some ⟨mCells lv pl dv s b l br, 52, 0, true⟩
  mot : RO h 9 lv (motCells s.ms) s.ms.length
  plan : RO h 1 pl (ints (s.plan.drop s.cov.toNat)) (s.plan.drop s.cov.toNat).length
  done : RO h 9 dv (motCells s.pieces) s.pieces.length
  dnil : s.pieces = [] → dv = .slice none 0 0
theorem MRepV.agree {h : Heap} {M : Nat} {s : CS} {b l : Int} {br : Bool} {lv pl dv : Value} (hm : MRepV h M s b l br lv pl dv) : ∃ F : List Nat, (∀ L ∈ F, (h L).isSome = true) ∧ ∀ h2 : Heap, (∀ L ∈ F, h2 L = h L) → MRepV h2 M s b l br lv pl dv := by
  obtain ⟨F1, f1, g1⟩ := hm.mot.agree
  obtain ⟨F2, f2, g2⟩ := hm.plan.agree
  obtain ⟨F3, f3, g3⟩ := hm.done.agree
  refine ⟨M :: (F1 ++ (F2 ++ F3)), ?_, fun h2 hh => ⟨by rw [hh M (by simp)]; exact hm.blk, g1 h2 fun L hL => hh L (by simp [hL]), g2 h2 fun L hL => hh L (by simp [hL]), g3 h2 fun L hL => hh L (by simp [hL]), hm.dnil⟩⟩
  intro L hL
  simp only [List.mem_cons, List.mem_append] at hL
  rcases hL with rfl | h | h | h
  · rw [hm.blk]; rfl
  · exact f1 L h
  · exact f2 L h
  · exact f3 L h
theorem MRepV.reads {h : Heap} {M : Nat} {s : CS} {b l : Int} {br : Bool} {lv pl dv : Value} (hm : MRepV h M s b l br lv pl dv) {g : FuncId} {args : List Value} {r : Value}
    (hs : ∀ h2 n2, MRepV h2 M s b l br lv pl dv → Dm.Spec Try.prog g args h2 n2 fun r' h' n' => r' = r ∧ h' = h2 ∧ n' = n2) : Reads g args h r := by
  obtain ⟨F, f1, f2⟩ := hm.agree
  exact ⟨F, f1, fun h2 n2 hh => hs h2 n2 (f2 h2 hh)⟩
theorem MRepV.put {h : Heap} {M : Nat} {s s' : CS} {b l b' l' : Int} {br br' : Bool} {lv pl dv pl' dv' : Value} (hm : MRepV h M s b l br lv pl dv) (h1 : s'.ms = s.ms) (h2 : RO h 1 pl' (ints (s'.plan.drop s'.cov.toNat)) (s'.plan.drop s'.cov.toNat).length) (h3 : RO h 9 dv' (motCells s'.pieces) s'.pieces.length) (h4 : s'.pieces = [] → dv' = .slice none 0 0) :
    MRepV (upd h M ⟨mCells lv pl' dv' s' b' l' br', 52, 0, true⟩) M s' b' l' br' lv pl' dv' := by
  have hf : Fz h (upd h M ⟨mCells lv pl' dv' s' b' l' br', 52, 0, true⟩) := Fz.upd fun b' hb => by rw [hm.blk] at hb; cases hb; rfl
  exact ⟨by rw [upd_at, if_pos rfl], by rw [h1]; exact hm.mot.fz hf, h2.fz hf, h3.fz hf, h4⟩
theorem MRepV.fz {h h' : Heap} {M : Nat} {s : CS} {b l : Int} {br : Bool} {lv pl dv : Value} (hm : MRepV h M s b l br lv pl dv) (hb : h' M = h M) (hf : Fz h h') : MRepV h' M s b l br lv pl dv :=
  ⟨by rw [hb]; exact hm.blk, hm.mot.fz hf, hm.plan.fz hf, hm.done.fz hf, hm.dnil⟩
theorem w52 {h : Heap} {M : Nat} {s : CS} {b l : Int} {br : Bool} {lv pl dv : Value} (hm : MRepV h M s b l br lv pl dv) (hcov : 0 ≤ s.cov ∧ s.cov ≤ s.plan.length) (n : Nat) : Dm.Spec Try.prog 52 [pC M] h n fun r' h' n' => r' = .bool s.resting ∧ h' = h ∧ n' = n := by
  refine pureAt Try.func52 rfl (by kernel_rfl) Try.ntmps52 (by rw [Try.results52]) (Nat.le_of_ble_eq_true rfl) ?_
  obtain ⟨A, c, e⟩ := hm.plan.len
  have hr : s.resting = decide ((s.plan.drop s.cov.toNat).length = 0) := by
    unfold CS.resting; rw [List.length_drop]
    by_cases h : s.cov = s.plan.length
    · simp [h]
    · simp [h]; omega
  rw [hr]
  generalize (s.plan.drop s.cov.toNat).length = k at *
  refine Sat.sq ?_
  refine Sat.reg (by kernel_rfl) ?_
  simp -dsimp
  refine Sat.sq ?_
  refine Sat.reg (by kernel_rfl) ?_
  simp -dsimp [hm.blk, e]
  refine Sat.ret (PureQ.ret rfl keep_refl ?_)
  simp -dsimp [Bool.beq_eq_decide_eq]
abbrev u53_0 : List (Nat × Nat) := []
theorem w53 {h : Heap} {M : Nat} {s : CS} {b l : Int} {br : Bool} {lv pl dv : Value} (hm : MRepV h M s b l br lv pl dv) (near : ∀ m ∈ s.ms, m.near) (few : s.ms.length ≤ 20000) (idx : 0 ≤ s.index ∧ s.index ≤ s.ms.length) (n : Nat) :
    Dm.Spec Try.prog 53 [pC M] h n fun r' h' n' => r' = .tuple #[] ∧ h' = upd h M ⟨mCells lv pl dv s.skip b l br, 52, 0, true⟩ ∧ n' = n := by
  refine Spec.body Try.func53 rfl (by kernel_rfl) Try.ntmps53 (by rw [Try.results53]) (Nat.le_of_ble_eq_true rfl) ?_
  refine Sat.lt fun hlt => ?_
  have nC := hlt M _ hm.blk
  obtain ⟨A, c, e⟩ := hm.mot.len
  subst e
  refine Sat.block ?_
  refine Sat.loop (ι := Nat × Int) (fun i T h' n' => find T 0 = some (pC M) ∧ h' = upd h M ⟨mCells (.slice A s.ms.length c) pl dv { s with index := i.2 } b l br, 52, 0, true⟩ ∧ n' = n ∧ 0 ≤ i.2 ∧ i.2 ≤ s.ms.length ∧ s.ms.length - i.2 ≤ i.1 ∧ skipL s.ms i.1 i.2 = skipL s.ms s.ms.length s.index) (fun i => i.1) (s.ms.length, s.index) ?_ ?_
  · refine ⟨rfl, ?_, rfl, idx.1, idx.2, by simp only; omega, rfl⟩
    funext L; rw [upd_at]; split
    · rename_i e; subst e; exact hm.blk
    · rfl
  · rintro ⟨k, i⟩ T h' n' ⟨t0, rfl, rfl, i0, i1, ik, hk⟩
    simp only at i0 i1 ik hk
    have hc' : MRepV (upd h M ⟨mCells (.slice A s.ms.length c) pl dv { s with index := i } b l br, 52, 0, true⟩) M { s with index := i } b l br (.slice A s.ms.length c) pl dv := hm.put rfl hm.plan hm.done hm.dnil
    have hb := hc'.blk
    obtain ⟨h1, hh1⟩ : ∃ h1, upd h M ⟨mCells (.slice A s.ms.length c) pl dv { s with index := i } b l br, 52, 0, true⟩ = h1 := ⟨_, rfl⟩
    rw [hh1] at hc' hb
    rw [hh1]
    refine Sat.sq ?_
    refine Sat.sq ?_
    refine Sat.drw u53_0 mixed (by kernel_rfl) (by kernel_rfl) (by kernel_rfl) (by kernel_rfl) ?_
    by_cases hi : i < s.ms.length
    · obtain ⟨B, o, sp, b', hB, hbo, am⟩ := hc'.mot.mot i0 hi
      have hn := near _ (get_mem i0 hi)
      simp only at am
      generalize hm : s.ms[i.toNat]! = m at *
      simp -dsimp [t0, hb, hi, -indexAddrA, am.idx, ↓am.l38, hB]
      refine callD.pure (w17 _ hn) ?_
      simp -dsimp
      refine Sat.ite rfl (fun hc0 => ?_) (fun hc0 => ?_)
      · have hc0 : m.len = 0 := by simpa using hc0
        have W : IntKind.i64.wrap (i + 1) = i + 1 := wrap_in (by omega) (by omega)
        obtain ⟨k, rfl⟩ : ∃ k', k = k' + 1 := ⟨k - 1, by omega⟩
        rw [skipL, if_pos ⟨hi, by rw [hm]; exact hc0⟩] at hk
        refine Sat.skip ?_
        simp -dsimp
        refine Sat.block ?_
        refine Sat.reg (by kernel_rfl) ?_
        simp -dsimp [t0, hb, W]
        exact ⟨k, ⟨i + 1, by rw [← hh1, upd_upd], by omega, by omega, by omega, by omega, hk⟩, by omega⟩
      · have hc0 : ¬ m.len = 0 := by simpa using hc0
        have hk' : skipL s.ms k i = i := by cases k <;> simp only [skipL, hm, hc0, and_false, if_false]
        refine Sat.exit ?_
        simp -dsimp
        refine RetQ.normal (n := n') rfl ⟨rfl, ?_, rfl⟩
        rw [← hh1, CS.skip, ← hk, hk']
    · have hk' : skipL s.ms k i = i := by cases k <;> simp [skipL, hi]
      simp -dsimp [t0, hb, hi]
      refine Sat.cond (t := false) (by rfl) ?_
      refine Sat.exit ?_
      simp -dsimp
      refine RetQ.normal (n := n') rfl ⟨rfl, ?_, rfl⟩
      rw [← hh1, CS.skip, ← hk, hk']
theorem speed_eq {r S : Int} (hS : 1 ≤ S) : speedM r S = limM r S := by
  unfold speedM limM
  by_cases h : 0 < r
  · rw [if_pos h]
    by_cases h2 : r < 1000 * S
    · rw [if_pos ⟨h, h2⟩]
      have : (r + 999) / 1000 = (r - 1) / 1000 + 1 := by omega
      omega
    · rw [if_neg (by omega)]
      have : S ≤ (r - 1) / 1000 + 1 := by omega
      omega
  · rw [if_neg (by omega), if_neg h]
abbrev u51_1 : List (Nat × Nat) := []
abbrev u51_4 : List (Nat × Nat) := []
abbrev u51_5 : List (Nat × Nat) := [(3, 10), (7, 10), (9, 10)]
abbrev u51_6 : List (Nat × Nat) := [(1, 9), (3, 9), (7, 9), (1, 14), (3, 14), (7, 14), (8, 14), (9, 14), (10, 14)]
theorem w51 {h : Heap} {M : Nat} {s : CS} {b l : Int} {br : Bool} {lv pl dv : Value} (hm : MRepV h M s b l br lv pl dv) (ho : s.Ok) (n : Nat) : Dm.Spec Try.prog 51 [pC M] h n fun r' h' n' => r' = s.pos.v ∧ h' = h ∧ n' = n := by
  refine pureAt Try.func51 rfl (by kernel_rfl) Try.ntmps51 (by rw [Try.results51]) (Nat.le_of_ble_eq_true rfl) ?_
  refine Sat.lt fun hlt => ?_
  obtain ⟨A, c, e⟩ := hm.mot.len
  subst e
  have lM := hlt M _ hm.blk
  have nM := ne2 lM
  have few := ho.few
  have hidx := ho.idx
  refine Sat.sq ?_
  refine Sat.reg (by kernel_rfl) ?_
  simp -dsimp
  refine Sat.sq ?_
  refine Sat.sq ?_
  refine Sat.drw u51_1 mixed (by kernel_rfl) (by kernel_rfl) (by kernel_rfl) (by kernel_rfl) ?_
  have nM1 := ne2 (show M < n + 1 by omega)
  have nM2 := ne2 (show M < n + 2 by omega)
  simp -dsimp [hm.blk, nM]
  refine Sat.ite rfl (fun hi => ?_) (fun hi => ?_)
  · have hi : s.index = s.ms.length := by simpa using hi
    refine Sat.sq ?_
    refine Sat.sq ?_
    refine Sat.reg (by kernel_rfl) ?_
    simp -dsimp [hm.blk, nM]
    refine Sat.ite rfl (fun h0 => ?_) (fun h0 => ?_)
    · have h0 : s.ms.length = 0 := by simpa using h0
      refine Sat.sq ?_
      refine Sat.reg (by kernel_rfl) ?_
      simp -dsimp
      refine Sat.ret ?_
      try simp -dsimp only [thenH_ret, blockA_ret, thenA_ret]
      refine PureQ.ret rfl (keep_upd (by omega) keep_refl) ?_
      simp -dsimp [CS.pos, h0]
    · have h0 : ¬ s.ms.length = 0 := by simpa using h0
      refine Sat.skip ?_
      simp -dsimp
      obtain ⟨B, o, sp, b', hB, hbo, am⟩ := hm.mot.mot (i := (s.ms.length : Int) - 1) (by omega) (by omega)
      have lB := hlt B _ hB
      have nB := ne2 lB
      have W : IntKind.i64.wrap ((s.ms.length : Int) - 1) = (s.ms.length : Int) - 1 := wrap_in (by omega) (by omega)
      refine Sat.sq ?_
      refine Sat.drw u51_4 mixed (by kernel_rfl) (by kernel_rfl) (by kernel_rfl) (by kernel_rfl) ?_
      simp -dsimp [hm.blk, nM, -indexAddrA, am.idx, ↓am.l36', hB, nB, W]
      refine Sat.ret ?_
      try simp -dsimp only [thenH_ret, blockA_ret, thenA_ret]
      refine PureQ.ret rfl (keep_upd (by omega) keep_refl) ?_
      simp -dsimp [CS.pos, h0, hi, Mot.to]
  have hi : ¬ s.index = s.ms.length := by simpa using hi
  have hi2 : s.index < s.ms.length := by omega
  refine Sat.skip ?_
  simp -dsimp
  obtain ⟨B, o, sp, b', hB, hbo, am⟩ := hm.mot.mot hidx.1 hi2
  change AtMot _ s.index s.cur B o sp b' at am
  have lB := hlt B _ hB
  have nB := ne2 lB
  have hn := ho.near _ (cur_mem hidx.1 hi2)
  have hp := ho.part hi2
  have hl := Mot.len_in hn
  have hk := near_okc hn
  have hpos : s.pos = s.cur.at' s.part := CS.pos_at hi2 hidx.1
  have nB1 := ne2 (show B < n + 1 by omega)
  refine Sat.sq ?_
  refine Sat.drw u51_5 mixed (by kernel_rfl) (by kernel_rfl) (by kernel_rfl) (by kernel_rfl) ?_
  simp -dsimp [hm.blk, nM, nM1, -indexAddrA, am.idx, ↓am.l38, hB, nB, nB1]
  refine Sat.sq ?_
  refine Sat.drw u51_6 mixed (by kernel_rfl) (by kernel_rfl) (by kernel_rfl) (by kernel_rfl) ?_
  simp -dsimp [hm.blk, nM, nM1]
  refine callD.pure (w17 _ hn) ?_
  simp -dsimp
  refine callD.pure (w67 _ _ _ _ _ _ _ _ hk.1 hk.2 ⟨hp.1, hl.2⟩ hp.2) ?_
  simp -dsimp [hm.blk, nM, nM1, nM2]
  refine Sat.sq ?_
  refine Sat.reg (by kernel_rfl) ?_
  simp -dsimp [hm.blk, nM, nM1, nM2]
  refine Sat.sq ?_
  refine Sat.reg (by kernel_rfl) ?_
  simp -dsimp [nM, nM1, nM2]
  refine Sat.ret (PureQ.ret rfl ?_ ?_)
  · intro L hL
    simp only [upd_at]
    by_cases e : L = M
    · subst e; simp [nM, nM1, nM2, hm.blk]
    · simp [e, show ¬ L = n by omega, show ¬ L = n + 1 by omega, show ¬ L = n + 2 by omega]
  · rw [hpos]; simp [Mot.at']
abbrev u60_2 : List (Nat × Nat) := []
theorem w60 {h : Heap} {M : Nat} {s : CS} {b l : Int} {br : Bool} {lv pl dv : Value} (hm : MRepV h M s b l br lv pl dv) (ho : s.Ok) (hi : s.index < s.ms.length) (n : Nat) : Dm.Spec Try.prog 60 [pC M] h n fun r' h' n' => r' = .agg #[.int .i64 s.lim, .int .i64 s.A, .int .i64 s.J] ∧ h' = h ∧ n' = n := by
  refine pureAt Try.func60 rfl (by kernel_rfl) Try.ntmps60 (by rw [Try.results60]) (Nat.le_of_ble_eq_true rfl) ?_
  refine Sat.lt fun hlt => ?_
  obtain ⟨A, c, e⟩ := hm.mot.len
  subst e
  have lM := hlt M _ hm.blk
  have nM := ne2 lM
  have nM1 := ne2 (show M < n + 1 by omega)
  have hv := ho.lim
  rw [valid_iff] at hv
  obtain ⟨B, o, sp, b', hB, hbo, am⟩ := hm.mot.mot ho.idx.1 hi
  change AtMot _ s.index s.cur B o sp b' at am
  have lB := hlt B _ hB
  have nB := ne2 lB
  have nB1 := ne2 (show B < n + 1 by omega)
  refine Sat.sq ?_
  refine Sat.reg (by kernel_rfl) ?_
  simp -dsimp
  refine Sat.sq ?_
  refine Sat.reg (by kernel_rfl) ?_
  simp -dsimp [hm.blk, nM]
  refine Sat.sq ?_
  refine Sat.drw u60_2 mixed (by kernel_rfl) (by kernel_rfl) (by kernel_rfl) (by kernel_rfl) ?_
  simp -dsimp [hm.blk, nM, nM1, -indexAddrA, am.idx, ↓am.l38, hB, nB, nB1]
  refine callD.pure (w15 _ _ ⟨by omega, by omega⟩) ?_
  rw [speed_eq (by omega)]
  simp -dsimp
  refine Sat.sq ?_
  refine Sat.reg (by kernel_rfl) ?_
  simp -dsimp
  refine Sat.ret (PureQ.ret rfl ?_ ?_)
  · repeat (first | exact keep_refl | refine keep_upd (by omega) ?_)
  · simp [CS.lim]

end Go.Proofs.Ytoinimkmoojcoaa
/- Walks, part N2. -/
set_option maxRecDepth 100000
set_option maxHeartbeats 4000000
set_option linter.unusedSimpArgs false
set_option linter.unusedVariables false
namespace Go.Proofs.Ytoinimkmoojcoaa
open Go Go.Dm
attribute [local simp ↓] RunS_nil RunS_op RunS_guard RunT_nil RunT_op RunT_guard opS_call opD_call opS_move opD_move opS_assign opD_assign opS_pick opD_pick opS_nilCheck opD_nilCheck opS_fieldAddr opD_fieldAddr opS_indexAddr opD_indexAddr opS_load opD_load opS_store opD_store opS_alloc opD_alloc opS_box opD_box opS_build opD_build opS_buildSlice opD_buildSlice opS_field opD_field opS_extract opD_extract opS_makeFunc opD_makeFunc opS_slice opD_slice opS_binOp opD_binOp opS_unOp opD_unOp opS_convert opD_convert opS_index opD_index opS_len opD_len opS_append opD_append opS_max opD_max opS_min opD_min obind_some obind_none thenH_normal thenH_ret thenH_exit blockA_normal blockA_ret blockA_exit thenA_normal thenA_ret thenA_exit dstAt_mk dstL_zero dstL_succ
attribute [local simp] undef wantG_bool wantG_undef findO_some calleeS find putA ev closed3 closed2 closed1 closed0 pickA binF unF convF mxF eqNilA fastBin fastUn fastConv intBin argEnv resultsA resultsL resultA notTuple allocs eff
  loadO storeO allocO boxO sliceO indexO indexAddrA loadA storeA newA isAggT nilCheckA lenA evAll evParts aadd gen upd_at upd_upd Value.cells mxV Pairs apart readsS labOf putAt fieldA partA extractA makeFuncA evOpt boundOf sliceA Nat.add_assoc
attribute [local simp] bu107_z bu107_0_1 bu25_0_1_2 bu36_z bu36_0_1 bu36_0_1_2 bu36_0 bu38_z bu38_0_1_2_3_4 bu38_0_1_3 bu38_0_1_3_4 bu38_1_2 bu38_1_2_3 bu52_0_1_10 bu81_0_1 bs22_0_z bs22_1_0 bs22_2_0_1 bs39_1_0 bs39_7_0_1_2_3_4_5_6 bs95_4_0_1_2_3
attribute [local simp ↓] eql107 neq107 eql36 neq36 eql38 neq38 eql25 neq25
attribute [local simp] fa25_0 fa25_1 fa25_2 fa36_0 fa36_1 fa36_2 fa38_0 fa38_1 fa38_2 fa38_3 fa38_4 fa107_0 fa107_1 fa81_0 fa81_1 fa81_2 fa81_3 fa81_4 fa81_5 fa81_6 fa81_7 fa81_8 fa81_9 fa81_10 fa52_0 fa52_1 fa52_2 fa52_3 fa52_4 fa52_5 fa52_6 fa52_7 fa52_8 fa52_9 fa52_10 fa52_11 fa52_12
attribute [local simp] c22 c39 c29 z22 z39 c25 c38 c2 c3 c4 c36 c107 c30 z25 z38 z2 z3 z4 z36 z107 b38 b25 b107 h38 h25 h36 h107 g38 g25 g36 g107 Try.underlying25 Try.underlying38 Try.underlying2 Try.underlying3 Try.underlying4 Try.underlying36 Try.underlying22 Try.underlying39 Try.underlying29 Try.underlying81 Try.underlying107 Try.underlying30
attribute [local simp] mx mn
attribute [local simp] c52 z52 b52 h52 g52 Try.underlying52 Try.underlying44
/-- A call that answers with a slice that it was shown, and leaves nothing else behind. -/
theorem Spec.oldS {P : Program} {g : FuncId} {args : List Value} {h : Heap} {n : Nat} {A : Option Addr} {k c : Nat} (hA : ∀ a, A = some a → a.block < n)
    (hs : Dm.Spec P g args h n fun r h' n' => n ≤ n' ∧ (∀ L, L < n → h' L = h L) ∧ r = .slice A k c) : Dm.Spec P g args h n fun r h' n' => r = .slice A k c ∧ h' = h ∧ n' = n := by
  refine ⟨fun m w args' ha H hd => (hs.run m w args' ha H hd).mono ?_⟩
  rintro e1 w' ⟨r, r', h', n', m', rfl, h2, h3, h4, h5, hn, hsame, rfl⟩
  have hlt : ∀ L b, h L = some b → L < n := fun L b hL => H.lt hd hL
  obtain ⟨s', hs', hup⟩ := carries_id m' _ r' ⟨_, _, _, rfl⟩ h2
  let m2 : LMap := fun L g => if L < n then m' L g else none
  have hm2 : ∀ L g, L < n → m2 L g = m' L g := fun L g hL => by simp only [m2, hL, if_true]
  have hle2 : ∀ L g p, m2 L g = some p → L < n ∧ m' L g = some p := by
    intro L g p hp; simp only [m2] at hp; split at hp
    · exact ⟨by assumption, hp⟩
    · cases hp
  have old : m.le m2 := by
    intro L g p hp
    rw [hm2 L g (hd _ _ _ hp)]; exact h5.step.le _ _ _ hp
  refine ⟨_, r', h, n, m2, rfl, ?_, ?_, ?_, ?_, rfl, rfl, rfl⟩
  · refine hup m2 _ ?_
    cases hs' with
    | closed h => exact .closed h
    | slice a1 a2 a3 a4 a5 => exact .slice (by rw [hm2 _ _ (hA _ rfl)]; exact a1) a2 a3 a4 a5
    | empty x y => exact .empty x y
  · refine ⟨?_, ?_, fun L g k o r hp => h3.inb L g k o r (hle2 _ _ _ hp).2, ?_⟩
    · intro L b hL
      have hL' := hlt L b hL
      obtain ⟨k, o, r, c, fr, x1, x2, x3, x4, x5, x6⟩ := h3.blk L b (by rw [hsame L hL']; exact hL)
      refine ⟨k, o, r, c, fr, by rw [hm2 L _ hL']; exact x1, x2, x3, x4, x5, ?_⟩
      intro j v hj
      obtain ⟨v', y1, y2⟩ := x6 j v hj
      refine ⟨v', y1, ?_⟩
      obtain ⟨k0, o0, r0, _, _, z1, _⟩ := H.blk L b hL
      obtain ⟨v0, _, z2⟩ := H.cell hL z1 hj
      exact (z2.back h5.step.le y2).mono old
    · intro L1 L2 b1 b2 k1 o1 r1 k2 o2 r2 hne a1 a2 ho b1' b2'
      have c1 := hle2 _ _ _ b1'; have c2 := hle2 _ _ _ b2'
      exact h3.sep L1 L2 b1 b2 k1 o1 r1 k2 o2 r2 hne (by rw [hsame _ c1.1]; exact a1) (by rw [hsame _ c2.1]; exact a2) ho c1.2 c2.2
    · intro L b g p hL hp
      have c1 := hle2 _ _ _ hp
      exact h3.gens L b g p (by rw [hsame _ c1.1]; exact hL) c1.2
  · intro L g p hp; exact (hle2 _ _ _ hp).1
  · refine ⟨⟨old, h5.step.os, h5.step.tape, h5.step.output, h5.step.size, h5.step.frame, ?_⟩, Nat.le_refl n, ?_⟩
    · intro L b k o r hL ho hp hk
      have c1 := hle2 _ _ _ hp
      exact h5.step.prov L b k o r (by rw [hsame _ c1.1]; exact hL) ho c1.2 hk
    · intro L g p hp
      have c1 := hle2 _ _ _ hp
      exact h5.lab L g p c1.2
/-- The piece of the model: from its beginning to the position, with what a motion says of it. -/
def CS.segOf (s : CS) (m : Mot) : Mot := ⟨s.last.x, s.last.y, s.last.z, s.pos.x, s.pos.y, s.pos.z, m.rate, m.tool, m.block⟩
theorem one_cells {g : Heap} {L : Nat} {xs : List Value} (h : g L = some ⟨xs, 38, 0, true⟩) (hl : xs.length = 9) : sliceCells Try.prog g 9 (.slice (some ⟨L, 0, none⟩) 1 1) = some xs := by
  have e : xs.take 9 = xs := List.take_of_length_le (by omega)
  simp [sliceCells, h, gen, hl, e]
theorem app_new {g : Heap} {L0 L k cd : Nat} {Ad : Option Addr} {cells : List Value} (hx : sliceCells Try.prog g 9 (.slice Ad k cd) = some cells) (hk : k ≠ 0) (hb : k ≤ 1000000000000) :
    appendA Try.prog g 22 (.slice (some ⟨L0, 0, none⟩) 0 1) (.slice Ad k cd) L = some (.slice (some ⟨L, 0, none⟩) k 11, some (L, ⟨cells, 38, 0, true⟩)) := by
  unfold appendA
  simp only [Try.underlying22, c38, if_pos (show 0 < 9 by omega), if_neg hk, hx, z38, b38]
  have e0 : sliceCells Try.prog g 9 (.slice (some ⟨L0, 0, none⟩) 0 1) = some [] := by simp [sliceCells]
  rw [e0]
  simp
  omega
theorem app_more {g : Heap} {L0 L1 L k : Nat} {cells xs : List Value} (h0 : g L0 = some ⟨cells, 38, 0, true⟩) (hl : cells.length = k * 9) (hk : 0 < k) (hb : k ≤ 1000000000000) (h1 : g L1 = some ⟨xs, 38, 0, true⟩) (hl1 : xs.length = 9) :
    appendA Try.prog g 22 (.slice (some ⟨L0, 0, none⟩) k 11) (.slice (some ⟨L1, 0, none⟩) 1 1) L = some (.slice (some ⟨L0, 0, some 1⟩) (k + 1) 11, some (L0, ⟨cells ++ xs, 38, 1, true⟩)) := by
  have e0 : sliceCells Try.prog g 9 (.slice (some ⟨L0, 0, none⟩) k 11) = some cells := by
    obtain ⟨j, rfl⟩ : ∃ j, k = j + 1 := ⟨k - 1, by omega⟩
    have e : cells.take ((j + 1) * 9) = cells := List.take_of_length_le (by omega)
    simp [sliceCells, h0, gen, hl, e]
  unfold appendA
  simp only [Try.underlying22, c38, if_pos (show 0 < 9 by omega), if_neg (show ¬ 1 = 0 by omega), e0, one_cells h1 hl1, z38, b38, h0]
  simp [hl]
  omega
abbrev u78_2 : List (Nat × Nat) := []
abbrev u78_4 : List (Nat × Nat) := [(0, 4), (0, 9), (5, 9), (0, 10), (5, 10), (0, 12), (5, 12), (0, 14), (5, 14), (0, 16), (5, 16), (0, 18), (4, 18), (5, 18)]
def piecePost (s : CS) (m : Mot) (dv : Value) (h : Heap) (n : Nat) (r : Value) (h' : Heap) (n' : Nat) : Prop :=
  n ≤ n' ∧ (∀ L, L < n → h' L = h L) ∧ ((s.pos = s.last ∧ r = dv) ∨ (s.pos ≠ s.last ∧ ∃ s', r = s' ∧ GS h' 38 9 s' (motCells (s.pieces ++ [s.segOf m])) (s.pieces.length + 1) n n'))
theorem w78raw {h : Heap} {M : Nat} {s : CS} {b l : Int} {br : Bool} {lv pl dv : Value} (hm : MRepV h M s b l br lv pl dv) (ho : s.Ok) (hpc : s.pieces.length ≤ 100000000000) (m : Mot) (n : Nat) :
    Dm.Spec Try.prog 78 [pC M, m.v] h n (piecePost s m dv h n) := by
  refine Spec.body Try.func78 rfl (by kernel_rfl) Try.ntmps78 (by rw [Try.results78]) (Nat.le_of_ble_eq_true rfl) ?_
  refine Sat.lt fun hlt => ?_
  have lM := hlt M _ hm.blk
  have nM := ne2 lM
  have nM1 := ne2 (show M < n + 1 by omega)
  refine Sat.sq ?_
  refine Sat.reg (by kernel_rfl) ?_
  simp -dsimp
  have hf1 : Fz h (upd h n ⟨m.cells, 38, 0, true⟩) := fun L b' x _ => by have := hlt L b' x; rw [upd_at, if_neg (by omega)]; exact x
  have hm1 : MRepV (upd h n ⟨m.cells, 38, 0, true⟩) M s b l br lv pl dv := hm.fz (by rw [upd_at, if_neg (by omega)]) hf1
  have hB1 : upd h n ⟨m.cells, 38, 0, true⟩ n = some ⟨m.cells, 38, 0, true⟩ := by rw [upd_at, if_pos rfl]
  have hl1 := lt_fresh (b := ⟨m.cells, 38, 0, true⟩) hlt
  have hk1 : ∀ L, L < n → upd h n ⟨m.cells, 38, 0, true⟩ L = h L := fun L hL => by rw [upd_at, if_neg (by omega)]
  dsimp only [Mot.cells] at hf1 hm1 hB1 hl1 hk1
  generalize upd h n _ = g1 at *
  refine Sat.sq ?_
  refine Sat.reg (by kernel_rfl) ?_
  simp -dsimp
  refine (w51 hm1 ho _).useH ?_
  simp -dsimp
  have hm2 : MRepV (upd g1 (n + 1) ⟨[.int .i64 s.pos.x, .int .i64 s.pos.y, .int .i64 s.pos.z], 36, 0, true⟩) M s b l br lv pl dv := hm1.fz (by rw [upd_at, if_neg (by omega)]) (fun L b' x _ => by have := hl1 L b' x; rw [upd_at, if_neg (by omega)]; exact x)
  have hB2 : upd g1 (n + 1) ⟨[.int .i64 s.pos.x, .int .i64 s.pos.y, .int .i64 s.pos.z], 36, 0, true⟩ n = some ⟨m.cells, 38, 0, true⟩ := by rw [upd_at, if_neg (by omega)]; exact hB1
  have hP2 : upd g1 (n + 1) ⟨[.int .i64 s.pos.x, .int .i64 s.pos.y, .int .i64 s.pos.z], 36, 0, true⟩ (n + 1) = some ⟨[.int .i64 s.pos.x, .int .i64 s.pos.y, .int .i64 s.pos.z], 36, 0, true⟩ := by rw [upd_at, if_pos rfl]
  have hl2 := lt_fresh (b := ⟨[.int .i64 s.pos.x, .int .i64 s.pos.y, .int .i64 s.pos.z], 36, 0, true⟩) hl1
  have hk2 : ∀ L, L < n → upd g1 (n + 1) ⟨[.int .i64 s.pos.x, .int .i64 s.pos.y, .int .i64 s.pos.z], 36, 0, true⟩ L = h L := fun L hL => by rw [upd_at, if_neg (by omega)]; exact hk1 L hL
  dsimp only [Mot.cells] at hB2
  generalize upd g1 (n + 1) _ = g2 at *
  clear hm1 hB1 hl1 hk1 hf1
  refine Sat.sq ?_
  refine Sat.sq ?_
  refine Sat.drw u78_2 mixed (by kernel_rfl) (by kernel_rfl) (by kernel_rfl) (by kernel_rfl) ?_
  simp -dsimp [hm2.blk, hP2, nM, nM1]
  obtain ⟨Ad, cd, rfl⟩ := hm.done.len
  refine Sat.ite rfl (fun hq => ?_) (fun hq => ?_)
  · have hq : s.pos = s.last := by
      have hq : s.pos.x = s.last.x ∧ s.pos.y = s.last.y ∧ s.pos.z = s.last.z := by simpa using hq
      cases hp : s.pos; cases hl : s.last; simp_all
    refine Sat.sq ?_
    refine Sat.reg (by kernel_rfl) ?_
    simp -dsimp [hm2.blk]
    refine Sat.ret ?_
    try simp -dsimp only [thenH_ret, blockA_ret, thenA_ret]
    exact RetQ.ret (r := .slice Ad s.pieces.length cd) (by rfl) ⟨by omega, hk2, .inl ⟨hq, rfl⟩⟩
  have hq : s.pos ≠ s.last := fun e => by rw [e] at hq; simp at hq
  refine Sat.skip ?_
  simp -dsimp
  have hml := motCells_length s.pieces
  have hcl := motCells_closed s.pieces
  refine Sat.sq ?_
  refine Sat.drw u78_4 mixed (by kernel_rfl) (by kernel_rfl) (by kernel_rfl) (by kernel_rfl) ?_
  by_cases hm0 : s.pieces.length = 0
  · have hpe : s.pieces = [] := List.eq_nil_of_length_eq_zero hm0
    have hx1 : appendA Try.prog (upd g2 (n + 2) ⟨[], 38, 0, true⟩) 22 (.slice (some ⟨n + 2, 0, none⟩) 0 1) (.slice Ad s.pieces.length cd) (n + 3) = some (.slice (some ⟨n + 2, 0, none⟩) 0 1, none) := by
      unfold appendA
      simp only [Try.underlying22, c38, if_pos (show 0 < 9 by omega), hm0, if_true]
    have nM2 := ne2 (show M < n + 2 by omega)
    have nM3 := ne2 (show M < n + 3 by omega)
    have hdn := hm2.dnil hpe
    rw [hpe] at hdn
    cases hdn
    have hx2 : appendA Try.prog (upd (upd g2 (n + 2) ⟨[], 38, 0, true⟩) (n + 3) ⟨(s.segOf m).cells, 38, 0, true⟩) 22 (.slice (some ⟨n + 2, 0, none⟩) 0 1) (.slice (some ⟨n + 3, 0, none⟩) 1 1) (n + 4) = some (.slice (some ⟨n + 4, 0, none⟩) 1 11, some (n + 4, ⟨(s.segOf m).cells, 38, 0, true⟩)) :=
      app_new (one_cells (by rw [upd_at, if_pos rfl]) rfl) (by omega) (by omega)
    dsimp only [CS.segOf, Mot.cells] at hx2
    simp -dsimp [hm2.blk, hB2, hP2, nM, nM1, nM2, nM3, hx1, hx2]
    refine Sat.ret ?_
    try simp -dsimp only [thenH_ret, blockA_ret, thenA_ret]
    refine RetQ.ret (r := .slice (some ⟨n + 4, 0, none⟩) 1 11) (by rfl) ⟨by omega, ?_, .inr ⟨hq, _, rfl, ?_⟩⟩
    · intro L hL; simp only [upd_at]; rw [if_neg (by omega), if_neg (by omega), if_neg (by omega)]; exact hk2 L hL
    · rw [hpe]
      exact .inr ⟨by simp, n + 4, none, rfl, by rw [upd_at, if_pos rfl]; rfl, rfl, by omega, by omega⟩
  · obtain ⟨aD, rfl, laD⟩ : ∃ a, Ad = some a ∧ a.block < n := by
      obtain ⟨_, A', c', e', hn', hp'⟩ := hm.done
      cases e'
      obtain ⟨a, b', e1, e2, _⟩ := hp' (by omega)
      exact ⟨a, e1, hlt _ _ e2⟩
    have nD3 := ne2 (show aD.block < n + 4 by omega)
    have hx1 : appendA Try.prog (upd g2 (n + 2) ⟨[], 38, 0, true⟩) 22 (.slice (some ⟨n + 2, 0, none⟩) 0 1) (.slice (some aD) s.pieces.length cd) (n + 3) = some (.slice (some ⟨n + 3, 0, none⟩) s.pieces.length 11, some (n + 3, ⟨motCells s.pieces, 38, 0, true⟩)) :=
      app_new (hm2.done.fz (h' := upd g2 (n + 2) ⟨[], 38, 0, true⟩) (fun L b' x _ => by rw [upd_at, if_neg (by have := hl2 L b' x; omega)]; exact x)).cells hm0 (by omega)
    have hx2 : appendA Try.prog (upd (upd (upd g2 (n + 2) ⟨[], 38, 0, true⟩) (n + 3) ⟨motCells s.pieces, 38, 0, true⟩) (n + 4) ⟨(s.segOf m).cells, 38, 0, true⟩) 22 (.slice (some ⟨n + 3, 0, none⟩) s.pieces.length 11) (.slice (some ⟨n + 4, 0, none⟩) 1 1) (n + 5) = some (.slice (some ⟨n + 3, 0, some 1⟩) (s.pieces.length + 1) 11, some (n + 3, ⟨motCells s.pieces ++ (s.segOf m).cells, 38, 1, true⟩)) :=
      app_more (by rw [upd_at, if_neg (by omega), upd_at, if_pos rfl]) hml (by omega) (by omega) (by rw [upd_at, if_pos rfl]) rfl
    dsimp only [CS.segOf, Mot.cells] at hx2
    have nM2 := ne2 (show M < n + 2 by omega)
    have nM3 := ne2 (show M < n + 3 by omega)
    have nM4 := ne2 (show M < n + 4 by omega)
    simp -dsimp [hm2.blk, hB2, hP2, nM, nM1, nM2, nM3, nM4, nD3, hx1, hx2]
    refine Sat.ret ?_
    try simp -dsimp only [thenH_ret, blockA_ret, thenA_ret]
    refine RetQ.ret (r := .slice (some ⟨n + 3, 0, some 1⟩) (s.pieces.length + 1) 11) (by rfl) ⟨by omega, ?_, .inr ⟨hq, _, rfl, ?_⟩⟩
    · intro L hL; simp only [upd_at]; repeat rw [if_neg (by omega)]
      exact hk2 L hL
    · have e : motCells (s.pieces ++ [s.segOf m]) = motCells s.pieces ++ (s.segOf m).cells := by simp [motCells]
      rw [e]
      exact .inr ⟨by omega, n + 3, some 1, rfl, by rw [upd_at, if_pos rfl]; rfl, by rw [List.length_append, hml]; simp [Mot.cells]; omega, by omega, by omega⟩

end Go.Proofs.Ytoinimkmoojcoaa
/- Walks, part N3. -/
set_option maxRecDepth 100000
set_option maxHeartbeats 4000000
set_option linter.unusedSimpArgs false
set_option linter.unusedVariables false
namespace Go.Proofs.Ytoinimkmoojcoaa
open Go Go.Dm
attribute [local simp ↓] RunS_nil RunS_op RunS_guard RunT_nil RunT_op RunT_guard opS_call opD_call opS_move opD_move opS_assign opD_assign opS_pick opD_pick opS_nilCheck opD_nilCheck opS_fieldAddr opD_fieldAddr opS_indexAddr opD_indexAddr opS_load opD_load opS_store opD_store opS_alloc opD_alloc opS_box opD_box opS_build opD_build opS_buildSlice opD_buildSlice opS_field opD_field opS_extract opD_extract opS_makeFunc opD_makeFunc opS_slice opD_slice opS_binOp opD_binOp opS_unOp opD_unOp opS_convert opD_convert opS_index opD_index opS_len opD_len opS_append opD_append opS_max opD_max opS_min opD_min obind_some obind_none thenH_normal thenH_ret thenH_exit blockA_normal blockA_ret blockA_exit thenA_normal thenA_ret thenA_exit dstAt_mk dstL_zero dstL_succ
attribute [local simp] undef wantG_bool wantG_undef findO_some calleeS find putA ev closed3 closed2 closed1 closed0 pickA binF unF convF mxF eqNilA fastBin fastUn fastConv intBin argEnv resultsA resultsL resultA notTuple allocs eff
  loadO storeO allocO boxO sliceO indexO indexAddrA loadA storeA newA isAggT nilCheckA lenA evAll evParts aadd gen upd_at upd_upd Value.cells mxV Pairs apart readsS labOf putAt fieldA partA extractA makeFuncA evOpt boundOf sliceA Nat.add_assoc
attribute [local simp] bu107_z bu107_0_1 bu25_0_1_2 bu36_z bu36_0_1 bu36_0_1_2 bu36_0 bu38_z bu38_0_1_2_3_4 bu38_0_1_3 bu38_0_1_3_4 bu38_1_2 bu38_1_2_3 bu52_0_1_10 bu81_0_1 bs22_0_z bs22_1_0 bs22_2_0_1 bs39_1_0 bs39_7_0_1_2_3_4_5_6 bs95_4_0_1_2_3
attribute [local simp ↓] eql107 neq107 eql36 neq36 eql38 neq38 eql25 neq25
attribute [local simp] fa25_0 fa25_1 fa25_2 fa36_0 fa36_1 fa36_2 fa38_0 fa38_1 fa38_2 fa38_3 fa38_4 fa107_0 fa107_1 fa81_0 fa81_1 fa81_2 fa81_3 fa81_4 fa81_5 fa81_6 fa81_7 fa81_8 fa81_9 fa81_10 fa52_0 fa52_1 fa52_2 fa52_3 fa52_4 fa52_5 fa52_6 fa52_7 fa52_8 fa52_9 fa52_10 fa52_11 fa52_12
attribute [local simp] c22 c39 c29 z22 z39 c25 c38 c2 c3 c4 c36 c107 c30 z25 z38 z2 z3 z4 z36 z107 b38 b25 b107 h38 h25 h36 h107 g38 g25 g36 g107 Try.underlying25 Try.underlying38 Try.underlying2 Try.underlying3 Try.underlying4 Try.underlying36 Try.underlying22 Try.underlying39 Try.underlying29 Try.underlying81 Try.underlying107 Try.underlying30
attribute [local simp] mx mn
attribute [local simp] c52 z52 b52 h52 g52 Try.underlying52 Try.underlying44
theorem w78eq {h : Heap} {M : Nat} {s : CS} {b l : Int} {br : Bool} {lv pl dv : Value} (hm : MRepV h M s b l br lv pl dv) (ho : s.Ok) (hpc : s.pieces.length ≤ 100000000000) (m : Mot) (n : Nat) (he : s.pos = s.last) :
    Dm.Spec Try.prog 78 [pC M, m.v] h n fun r h' n' => r = dv ∧ h' = h ∧ n' = n := by
  refine Spec.lt fun hlt => ?_
  obtain ⟨Ad, cd, e⟩ := hm.done.len
  have hA : ∀ a, Ad = some a → a.block < n := by
    rintro a rfl
    by_cases hp : s.pieces = []
    · have := hm.dnil hp; rw [e] at this; cases this
    · obtain ⟨_, A', c', e', hn', hp'⟩ := hm.done
      rw [e] at e'; cases e'
      have : 0 < s.pieces.length := by cases hq : s.pieces with | nil => exact absurd hq hp | cons => simp
      obtain ⟨a', b', e1, e2, _⟩ := hp' this
      cases e1
      exact hlt _ _ e2
  subst e
  refine Spec.oldS hA ((w78raw hm ho hpc m n).mono ?_)
  rintro r h' n' ⟨h1, h2, ⟨_, h3⟩ | ⟨h3, _⟩⟩
  · exact ⟨h1, h2, h3⟩
  · exact absurd he h3
theorem w78ne {h : Heap} {M : Nat} {s : CS} {b l : Int} {br : Bool} {lv pl dv : Value} (hm : MRepV h M s b l br lv pl dv) (ho : s.Ok) (hpc : s.pieces.length ≤ 100000000000) (m : Mot) (n : Nat) (he : s.pos ≠ s.last) (o : Bool) :
    Dm.Spec Try.prog 78 [pC M, m.v] h n fun r h' n' => r = gcv n 9 (s.pieces.length + 1) ∧ h' = applyU h (gcu n 38 (motCells (s.pieces ++ [s.segOf m])) (s.pieces.length + 1) o) ∧ n' = n + 1 := by
  refine Spec.gc (F := fun s => s) carries_id (motCells_closed _) ((w78raw hm ho hpc m n).mono ?_) o
  rintro r h' n' ⟨h1, h2, ⟨h3, _⟩ | ⟨_, h3⟩⟩
  · exact absurd h3 he
  · exact ⟨h1, h2, h3⟩
/-- The pieces with the one up to the position. -/
def CS.cutP (s : CS) (m : Mot) : List Mot := if s.pos = s.last then s.pieces else s.pieces ++ [s.segOf m]
def CS.cut (s : CS) (m : Mot) : CS := { s with pieces := s.cutP m, last := s.pos }
theorem w78 {h : Heap} {M : Nat} {s : CS} {b l : Int} {br : Bool} {lv pl dv : Value} (hm : MRepV h M s b l br lv pl dv) (ho : s.Ok) (hpc : s.pieces.length ≤ 100000000000) (m : Mot) (n : Nat) :
    ∃ us : List (Nat × Blk), ∃ n' v, n ≤ n' ∧ n' ≤ n + 1 ∧ (∀ u ∈ us, u.1 = n) ∧ (∀ u ∈ us, u.1 < n') ∧ (closed3 v = true ∨ True) ∧ Dm.Spec Try.prog 78 [pC M, m.v] h n (fun r h' n'' => r = v ∧ h' = applyU h us ∧ n'' = n') ∧
      ((∀ L b, h L = some b → L < n) → RO (applyU h us) 9 v (motCells (s.cutP m)) (s.cutP m).length ∧ (∀ L, L < n → applyU h us L = h L) ∧ (∀ L b, applyU h us L = some b → L < n') ∧ (s.cutP m = [] → v = .slice none 0 0)) := by
  by_cases he : s.pos = s.last
  · refine ⟨[], n, dv, Nat.le_refl _, by omega, fun _ h => (nomatch h), fun _ h => (nomatch h), .inr trivial, w78eq hm ho hpc m n he, fun hlt => ?_⟩
    rw [CS.cutP, if_pos he]
    exact ⟨hm.done, fun _ _ => rfl, hlt, hm.dnil⟩
  · refine ⟨_, n + 1, _, by omega, by omega, ?_, ?_, .inr trivial, w78ne hm ho hpc m n he false, fun hlt => ?_⟩
    · intro u hu; unfold gcu at hu; rw [if_neg (by omega)] at hu; simp only [List.mem_singleton] at hu; rw [hu]
    · exact gcu_lt _ _ _ _ _
    · rw [CS.cutP, if_neg he]
      obtain ⟨a1, a2, a3⟩ := gc_ro (e := 38) (n := n) hlt (motCells_length (s.pieces ++ [s.segOf m]))
      rw [show (s.pieces ++ [s.segOf m]).length = s.pieces.length + 1 by simp] at a1 a2 a3
      exact ⟨by rw [show (s.pieces ++ [s.segOf m]).length = s.pieces.length + 1 by simp]; exact a1, a2, a3, fun h => by simp at h⟩
/-- A model behind one of its words. -/
def MPost (h : Heap) (n M : Nat) (s' : CS) (b' l' : Int) (br' : Bool) (lv : Value) (h' : Heap) (n' : Nat) : Prop :=
  n ≤ n' ∧ (∀ L, L < n → L ≠ M → h' L = h L) ∧ Fz h h' ∧ ∃ pl dv, MRepV h' M s' b' l' br' lv pl dv
theorem w62 {h : Heap} {M : Nat} {s : CS} {b l : Int} {br : Bool} {lv pl dv : Value} (hm : MRepV h M s b l br lv pl dv) (ho : s.Ok) (hpc : s.pieces.length ≤ 100000000000) (m : Mot) (n : Nat) :
    Dm.Spec Try.prog 62 [pC M, m.v] h n fun r h' n' => r = .tuple #[] ∧ MPost h n M (s.cut m) b l br lv h' n' := by
  refine Spec.body Try.func62 rfl (by kernel_rfl) Try.ntmps62 (by rw [Try.results62]) (Nat.le_of_ble_eq_true rfl) ?_
  refine Sat.lt fun hlt => ?_
  have lM := hlt M _ hm.blk
  have nM := ne2 lM
  refine Sat.sq ?_
  refine Sat.reg (by kernel_rfl) ?_
  simp -dsimp
  have hf1 : Fz h (upd h n ⟨m.cells, 38, 0, true⟩) := fun L b' x _ => by have := hlt L b' x; rw [upd_at, if_neg (by omega)]; exact x
  have hm1 : MRepV (upd h n ⟨m.cells, 38, 0, true⟩) M s b l br lv pl dv := hm.fz (by rw [upd_at, if_neg (by omega)]) hf1
  have hB1 : upd h n ⟨m.cells, 38, 0, true⟩ n = some ⟨m.cells, 38, 0, true⟩ := by rw [upd_at, if_pos rfl]
  have hl1 := lt_fresh (b := ⟨m.cells, 38, 0, true⟩) hlt
  have hk1 : ∀ L, L < n → upd h n ⟨m.cells, 38, 0, true⟩ L = h L := fun L hL => by rw [upd_at, if_neg (by omega)]
  dsimp only [Mot.cells] at hf1 hm1 hB1 hl1 hk1
  generalize upd h n _ = g1 at *
  refine Sat.reg (by kernel_rfl) ?_
  simp -dsimp [hB1]
  obtain ⟨us, p, v, p1, p2, u1, u2, _, hspec, hgo⟩ := w78 hm1 ho hpc m (n + 1)
  obtain ⟨hro, hs, hl2, hnil⟩ := hgo hl1
  refine hspec.useH ?_
  simp -dsimp
  have hm2 : MRepV (applyU g1 us) M s b l br lv pl dv := hm1.fz (hs _ (by omega)) (fun L b' x _ => by rw [hs _ (hl1 L b' x)]; exact x)
  generalize applyU g1 us = g2 at *
  refine (w51 hm2 ho _).useH ?_
  have nMp := ne2 (show M < p by omega)
  obtain ⟨Av, cv, rfl⟩ := hro.len
  simp -dsimp [hm2.blk, nMp]
  refine RetQ.normal (r := .tuple #[]) (by rfl) ⟨rfl, by omega, fun L hL hne => ?_, ?_, pl, .slice Av (s.cutP m).length cv, ?_⟩
  · rw [upd_at, if_neg hne, hs _ (by omega)]; exact hk1 L hL
  · intro L b' x y
    rw [upd_at, if_neg (by intro e; subst e; rw [hm.blk] at x; cases x; cases y), hs _ (by have := hlt L b' x; omega)]
    exact hf1 L b' x y
  · exact hm2.put (s' := s.cut m) rfl hm2.plan hro hnil
def CS.segTo (s : CS) (m : Mot) : Mot := ⟨s.last.x, s.last.y, s.last.z, m.tx, m.ty, m.tz, m.rate, m.tool, m.block⟩
def CS.toP (s : CS) (m : Mot) : List Mot := if s.last = m.to then s.pieces else s.pieces ++ [s.segTo m]
def CS.cutTo (s : CS) (m : Mot) : CS := { s with pieces := s.toP m, last := m.to }
def at61 (g1 : Heap) (n M : Nat) (s : CS) (m : Mot) (b l : Int) (br : Bool) (lv pl : Value) (T : TEnv) (h' : Heap) (n' : Nat) : Prop :=
  find T 0 = some (pC M) ∧ find T 3 = some (.pointer (some ⟨n, 0, none⟩)) ∧ n + 1 ≤ n' ∧ (∀ L, L < n + 1 → L ≠ M → h' L = g1 L) ∧ Fz g1 h' ∧ ∃ dv', MRepV h' M { s with pieces := s.toP m } b l br lv pl dv'
def at61F (g1 : Heap) (n M : Nat) (s : CS) (m : Mot) (b l : Int) (br : Bool) (lv pl : Value) (T : TEnv) (h' : Heap) (n' : Nat) : Prop :=
  at61 g1 n M s m b l br lv pl T h' n' ∨ ∃ L b', h' L = some b' ∧ at61 g1 n M s m b l br lv pl T (upd h' L { b' with own := false }) n'
theorem at61_mk {g1 H : Heap} {n n' M : Nat} {s : CS} {m : Mot} {b l : Int} {br : Bool} {lv pl dv dv' : Value} {T : TEnv} (hm1 : MRepV g1 M s b l br lv pl dv) (hl1 : ∀ L b, g1 L = some b → L < n + 1) (t0 : find T 0 = some (pC M)) (t3 : find T 3 = some (.pointer (some ⟨n, 0, none⟩))) (hn : n + 1 ≤ n')
    (hM : H M = some ⟨mCells lv pl dv' { s with pieces := s.toP m } b l br, 52, 0, true⟩) (hs : ∀ L, L < n + 1 → L ≠ M → H L = g1 L) (hd : RO H 9 dv' (motCells (s.toP m)) (s.toP m).length) (hnil : s.toP m = [] → dv' = .slice none 0 0) : at61 g1 n M s m b l br lv pl T H n' := by
  have hf : Fz g1 H := fun L b' x y => by
    rw [hs L (hl1 L b' x) (by intro e; subst e; rw [hm1.blk] at x; cases x; cases y)]; exact x
  exact ⟨t0, t3, hn, hs, hf, dv', ⟨hM, hm1.mot.fz hf, hm1.plan.fz hf, hd, hnil⟩⟩
abbrev u61_1 : List (Nat × Nat) := []
abbrev u61_2 : List (Nat × Nat) := [(1, 5), (1, 10), (6, 10), (1, 12), (6, 12), (1, 14), (6, 14), (1, 16), (6, 16), (1, 18), (6, 18), (1, 20), (5, 20), (6, 20)]
theorem w61 {h : Heap} {M : Nat} {s : CS} {b l : Int} {br : Bool} {lv pl dv : Value} (hm : MRepV h M s b l br lv pl dv) (hpc : s.pieces.length ≤ 100000000000) (m : Mot) (n : Nat) :
    Dm.Spec Try.prog 61 [pC M, m.v] h n fun r h' n' => r = .tuple #[] ∧ MPost h n M (s.cutTo m) b l br lv h' n' := by
  refine Spec.body Try.func61 rfl (by kernel_rfl) Try.ntmps61 (by rw [Try.results61]) (Nat.le_of_ble_eq_true rfl) ?_
  refine Sat.lt fun hlt => ?_
  have lM := hlt M _ hm.blk
  have nM := ne2 lM
  refine Sat.sq ?_
  refine Sat.reg (by kernel_rfl) ?_
  simp -dsimp
  have hf1 : Fz h (upd h n ⟨m.cells, 38, 0, true⟩) := fun L b' x _ => by have := hlt L b' x; rw [upd_at, if_neg (by omega)]; exact x
  have hm1 : MRepV (upd h n ⟨m.cells, 38, 0, true⟩) M s b l br lv pl dv := hm.fz (by rw [upd_at, if_neg (by omega)]) hf1
  have hB1 : upd h n ⟨m.cells, 38, 0, true⟩ n = some ⟨m.cells, 38, 0, true⟩ := by rw [upd_at, if_pos rfl]
  have hl1 := lt_fresh (b := ⟨m.cells, 38, 0, true⟩) hlt
  have hk1 : ∀ L, L < n → upd h n ⟨m.cells, 38, 0, true⟩ L = h L := fun L hL => by rw [upd_at, if_neg (by omega)]
  dsimp only [Mot.cells] at hf1 hm1 hB1 hl1 hk1
  generalize upd h n _ = g1 at *
  obtain ⟨Ad, cd, rfl⟩ := hm.done.len
  refine Sat.join (at61F g1 n M s m b l br lv pl) ?_ ?_
  · refine Sat.sq ?_
    refine Sat.drw u61_1 mixed (by kernel_rfl) (by kernel_rfl) (by kernel_rfl) (by kernel_rfl) ?_
    simp -dsimp [hm1.blk, hB1, nM]
    refine Sat.ite rfl (fun hq => ?_) (fun hq => ?_)
    · have hq : s.last ≠ m.to := fun e => by rw [e] at hq; simp [Mot.to] at hq
      have hml := motCells_length s.pieces
      have hcl := motCells_closed s.pieces
      refine Sat.drw u61_2 mixed (by kernel_rfl) (by kernel_rfl) (by kernel_rfl) (by kernel_rfl) ?_
      have nM1 := ne2 (show M < n + 1 by omega)
      have nM2 := ne2 (show M < n + 2 by omega)
      have nM3 := ne2 (show M < n + 3 by omega)
      have nM4 := ne2 (show M < n + 4 by omega)
      have etoP : s.toP m = s.pieces ++ [s.segTo m] := by rw [CS.toP, if_neg hq]
      by_cases hm0 : s.pieces.length = 0
      · have hpe : s.pieces = [] := List.eq_nil_of_length_eq_zero hm0
        have hdn := hm1.dnil hpe
        have hx1 : appendA Try.prog (upd g1 (n + 1) ⟨[], 38, 0, true⟩) 22 (.slice (some ⟨n + 1, 0, none⟩) 0 1) (.slice Ad s.pieces.length cd) (n + 2) = some (.slice (some ⟨n + 1, 0, none⟩) 0 1, none) := by
          unfold appendA
          simp only [Try.underlying22, c38, if_pos (show 0 < 9 by omega), hm0, if_true]
        rw [hpe] at hdn
        cases hdn
        have hx2 : appendA Try.prog (upd (upd g1 (n + 1) ⟨[], 38, 0, true⟩) (n + 2) ⟨(s.segTo m).cells, 38, 0, true⟩) 22 (.slice (some ⟨n + 1, 0, none⟩) 0 1) (.slice (some ⟨n + 2, 0, none⟩) 1 1) (n + 3) = some (.slice (some ⟨n + 3, 0, none⟩) 1 11, some (n + 3, ⟨(s.segTo m).cells, 38, 0, true⟩)) :=
          app_new (one_cells (by rw [upd_at, if_pos rfl]) rfl) (by omega) (by omega)
        dsimp only [CS.segTo, Mot.cells] at hx2
        simp -dsimp [hm1.blk, hB1, nM, nM1, nM2, nM3, nM4, hx1, hx2]
        refine .inr ⟨n + 3, _, by rw [upd_at, if_neg (by omega), upd_at, if_pos rfl], at61_mk (dv' := .slice (some ⟨n + 3, 0, none⟩) 1 11) hm1 hl1 rfl rfl (by omega) ?_ (fun L hL hne => ?_) ?_ (fun e => by rw [etoP] at e; simp at e)⟩
        · rw [upd_at, if_neg (by omega), upd_at, if_pos rfl]
        · simp only [upd_at]; rw [if_neg (by omega), if_neg hne, if_neg (by omega), if_neg (by omega), if_neg (by omega)]
        · rw [etoP, hpe]
          exact ⟨by simp [motCells, Mot.cells], _, _, rfl, (fun h => nomatch h), fun _ => ⟨_, _, rfl, by rw [upd_at, if_pos rfl], rfl, rfl, by simp, by simp [motCells, Mot.cells, CS.segTo]⟩⟩
      · obtain ⟨aD, rfl, laD⟩ : ∃ a, Ad = some a ∧ a.block < n := by
          obtain ⟨_, A', c', e', hn', hp'⟩ := hm.done
          cases e'
          obtain ⟨a, b', e1, e2, _⟩ := hp' (by omega)
          exact ⟨a, e1, hlt _ _ e2⟩
        have nD1 := ne2 (show aD.block < n + 1 by omega)
        have nD2 := ne2 (show aD.block < n + 2 by omega)
        have nD3 := ne2 (show aD.block < n + 3 by omega)
        have hx1 : appendA Try.prog (upd g1 (n + 1) ⟨[], 38, 0, true⟩) 22 (.slice (some ⟨n + 1, 0, none⟩) 0 1) (.slice (some aD) s.pieces.length cd) (n + 2) = some (.slice (some ⟨n + 2, 0, none⟩) s.pieces.length 11, some (n + 2, ⟨motCells s.pieces, 38, 0, true⟩)) :=
          app_new (hm1.done.fz (h' := upd g1 (n + 1) ⟨[], 38, 0, true⟩) (fun L b' x _ => by rw [upd_at, if_neg (by have := hl1 L b' x; omega)]; exact x)).cells hm0 (by omega)
        have hx2 : appendA Try.prog (upd (upd (upd g1 (n + 1) ⟨[], 38, 0, true⟩) (n + 2) ⟨motCells s.pieces, 38, 0, true⟩) (n + 3) ⟨(s.segTo m).cells, 38, 0, true⟩) 22 (.slice (some ⟨n + 2, 0, none⟩) s.pieces.length 11) (.slice (some ⟨n + 3, 0, none⟩) 1 1) (n + 4) = some (.slice (some ⟨n + 2, 0, some 1⟩) (s.pieces.length + 1) 11, some (n + 2, ⟨motCells s.pieces ++ (s.segTo m).cells, 38, 1, true⟩)) :=
          app_more (by rw [upd_at, if_neg (by omega), upd_at, if_pos rfl]) hml (by omega) (by omega) (by rw [upd_at, if_pos rfl]) rfl
        dsimp only [CS.segTo, Mot.cells] at hx2
        simp -dsimp [hm1.blk, hB1, nM, nM1, nM2, nM3, nM4, nD1, nD2, nD3, hx1, hx2]
        have e9 : motCells (s.pieces ++ [s.segTo m]) = motCells s.pieces ++ (s.segTo m).cells := by simp [motCells]
        refine .inr ⟨n + 2, _, by rw [upd_at, if_neg (by omega), upd_at, if_pos rfl], at61_mk (dv' := .slice (some ⟨n + 2, 0, some 1⟩) (s.pieces.length + 1) 11) hm1 hl1 rfl rfl (by omega) ?_ (fun L hL hne => ?_) ?_ (fun e => by rw [etoP] at e; simp at e)⟩
        · rw [upd_at, if_neg (by omega), upd_at, if_pos rfl]
        · simp only [upd_at]; repeat rw [if_neg (by omega)]
        · rw [etoP, show (s.pieces ++ [s.segTo m]).length = s.pieces.length + 1 by simp, e9]
          exact ⟨by rw [List.length_append, hml]; simp [Mot.cells]; omega, _, _, rfl, (fun h => nomatch h), fun _ => ⟨_, _, rfl, by rw [upd_at, if_pos rfl], rfl, rfl, by simp only [List.length_append, hml]; simp; omega, by simp only [List.drop_zero]; rw [List.take_of_length_le (by simp only [List.length_append, hml]; simp; omega)]; rfl⟩⟩
    · have hq : s.last = m.to := by
        have hq : s.last.x = m.tx ∧ s.last.y = m.ty ∧ s.last.z = m.tz := by simpa using hq
        cases hl : s.last; simp_all [Mot.to]
      have etoP : s.toP m = s.pieces := by rw [CS.toP, if_pos hq]
      refine Sat.skip ?_
      simp -dsimp
      refine .inl (at61_mk hm1 hl1 rfl rfl (by omega) (by rw [etoP]; exact hm1.blk) (fun _ _ _ => rfl) (by rw [etoP]; exact hm1.done) (by rw [etoP]; exact hm1.dnil))
  suffices key : ∀ T h n', at61 g1 n M s m b l br lv pl T h n' → Sat Try.prog _ _ T h n' _ by
    rintro T h n' (hJ | ⟨L, b', hb, hJ⟩)
    · exact key _ _ _ hJ
    · exact Sat.freeze L hb (key _ _ _ hJ)
  rintro T h2 n2 ⟨t0, t3, hn2, hs2, hf2, dv', hm2⟩
  refine Sat.lt fun hlt2 => ?_
  have nM2 := ne2 (show M < n2 by omega)
  have hB2 : h2 n = some ⟨m.cells, 38, 0, true⟩ := by rw [hs2 n (by omega) (by omega)]; exact hB1
  dsimp only [Mot.cells] at hB2
  refine Sat.reg (by kernel_rfl) ?_
  simp -dsimp [t0, t3, hm2.blk, hB2, nM, nM2]
  refine RetQ.normal rfl ⟨rfl, by omega, fun L hL hne => ?_, ?_, pl, dv', ?_⟩
  · rw [upd_at, if_neg hne, hs2 _ (by omega) hne]; exact hk1 L hL
  · intro L b' x y
    have hne : L ≠ M := by intro e; subst e; rw [hm.blk] at x; cases x; cases y
    have := hlt L b' x
    rw [upd_at, if_neg hne, hs2 _ (by omega) hne]
    exact hf1 L b' x y
  · exact hm2.put (s' := s.cutTo m) rfl hm2.plan hm2.done hm2.dnil

end Go.Proofs.Ytoinimkmoojcoaa
/- Walks, part N4. -/
set_option maxRecDepth 100000
set_option maxHeartbeats 4000000
set_option linter.unusedSimpArgs false
set_option linter.unusedVariables false
namespace Go.Proofs.Ytoinimkmoojcoaa
open Go Go.Dm
attribute [local simp ↓] RunS_nil RunS_op RunS_guard RunT_nil RunT_op RunT_guard opS_call opD_call opS_move opD_move opS_assign opD_assign opS_pick opD_pick opS_nilCheck opD_nilCheck opS_fieldAddr opD_fieldAddr opS_indexAddr opD_indexAddr opS_load opD_load opS_store opD_store opS_alloc opD_alloc opS_box opD_box opS_build opD_build opS_buildSlice opD_buildSlice opS_field opD_field opS_extract opD_extract opS_makeFunc opD_makeFunc opS_slice opD_slice opS_binOp opD_binOp opS_unOp opD_unOp opS_convert opD_convert opS_index opD_index opS_len opD_len opS_append opD_append opS_max opD_max opS_min opD_min obind_some obind_none thenH_normal thenH_ret thenH_exit blockA_normal blockA_ret blockA_exit thenA_normal thenA_ret thenA_exit dstAt_mk dstL_zero dstL_succ
attribute [local simp] undef wantG_bool wantG_undef findO_some calleeS find putA ev closed3 closed2 closed1 closed0 pickA binF unF convF mxF eqNilA fastBin fastUn fastConv intBin argEnv resultsA resultsL resultA notTuple allocs eff
  loadO storeO allocO boxO sliceO indexO indexAddrA loadA storeA newA isAggT nilCheckA lenA evAll evParts aadd gen upd_at upd_upd Value.cells mxV Pairs apart readsS labOf putAt fieldA partA extractA makeFuncA evOpt boundOf sliceA Nat.add_assoc
attribute [local simp] bu107_z bu107_0_1 bu25_0_1_2 bu36_z bu36_0_1 bu36_0_1_2 bu36_0 bu38_z bu38_0_1_2_3_4 bu38_0_1_3 bu38_0_1_3_4 bu38_1_2 bu38_1_2_3 bu52_0_1_10 bu81_0_1 bs22_0_z bs22_1_0 bs22_2_0_1 bs39_1_0 bs39_7_0_1_2_3_4_5_6 bs95_4_0_1_2_3
attribute [local simp ↓] eql107 neq107 eql36 neq36 eql38 neq38 eql25 neq25
attribute [local simp] fa25_0 fa25_1 fa25_2 fa36_0 fa36_1 fa36_2 fa38_0 fa38_1 fa38_2 fa38_3 fa38_4 fa107_0 fa107_1 fa81_0 fa81_1 fa81_2 fa81_3 fa81_4 fa81_5 fa81_6 fa81_7 fa81_8 fa81_9 fa81_10 fa52_0 fa52_1 fa52_2 fa52_3 fa52_4 fa52_5 fa52_6 fa52_7 fa52_8 fa52_9 fa52_10 fa52_11 fa52_12
attribute [local simp] c22 c39 c29 z22 z39 c25 c38 c2 c3 c4 c36 c107 c30 z25 z38 z2 z3 z4 z36 z107 b38 b25 b107 h38 h25 h36 h107 g38 g25 g36 g107 Try.underlying25 Try.underlying38 Try.underlying2 Try.underlying3 Try.underlying4 Try.underlying36 Try.underlying22 Try.underlying39 Try.underlying29 Try.underlying81 Try.underlying107 Try.underlying30
attribute [local simp] mx mn
attribute [local simp] c52 z52 b52 h52 g52 Try.underlying52 Try.underlying44
theorem RO.dropI {h : Heap} {v : Value} {l : List Int} (hr : RO h 1 v (ints l) l.length) {i : Int} (h0 : 0 ≤ i) (h1 : i ≤ l.length) :
    ∃ sv, sliceA Try.prog 39 v (some (.int .i64 i)) none = some sv ∧ RO h 1 sv (ints (l.drop i.toNat)) (l.drop i.toNat).length := by
  obtain ⟨hl, A, c, rfl, hn, hp⟩ := hr
  obtain ⟨j, rfl⟩ : ∃ j : Nat, i = j := ⟨i.toNat, by omega⟩
  have hj : j ≤ l.length := by omega
  simp only [Int.toNat_natCast]
  unfold sliceA
  simp only [Try.underlying39, boundOf, c2]
  rw [if_pos ⟨by omega, h0, h1, by omega⟩]
  by_cases he : j = l.length
  · have hd : l.drop j = [] := by rw [he]; simp
    rw [hd, if_pos (by omega)]
    cases A with
    | none => exact ⟨_, rfl, RO.nil⟩
    | some a => exact ⟨_, rfl, rfl, _, _, rfl, fun h => (nomatch h), fun h => absurd h (by simp)⟩
  · rw [if_neg (by omega)]
    obtain ⟨a, b, rfl, x2, x3, x4, x5, x6⟩ := hp (by omega)
    have key : ∀ c2, RO h 1 (.slice (some (aadd a (j * 1))) (l.drop j).length c2) (ints (l.drop j)) (l.drop j).length := by
      intro c2
      refine ⟨by rw [ints_length], some (aadd a (j * 1)), c2, rfl, fun h => (nomatch h), fun _ => ⟨aadd a (j * 1), b, rfl, x2, x3, x4, ?_, ?_⟩⟩
      · simp [aadd]; omega
      · have e : ints (l.drop j) = (ints l).drop (j * 1) := by simp [ints]
        rw [e, ← x6]
        simp only [aadd, List.length_drop]
        rw [List.drop_take, List.drop_drop]
        congr 1
        omega
    refine ⟨_, rfl, ?_⟩
    rw [show ((l.length : Int) - (j : Int)).toNat = (l.drop j).length by simp <;> omega]
    exact key _
theorem MRepV.congr {h : Heap} {M : Nat} {s t : CS} {b l : Int} {br : Bool} {lv pl dv : Value} (hm : MRepV h M s b l br lv pl dv) (h1 : t.ms = s.ms) (h2 : t.S = s.S ∧ t.A = s.A ∧ t.J = s.J) (h3 : t.index = s.index) (h4 : t.part = s.part) (h5 : t.held = s.held) (h6 : t.broken = s.broken) (h7 : t.last = s.last) (h8 : t.pieces = s.pieces) (h9 : t.plan.drop t.cov.toNat = s.plan.drop s.cov.toNat) : MRepV h M t b l br lv pl dv := by
  refine ⟨?_, by rw [h1]; exact hm.mot, by rw [h9]; exact hm.plan, by rw [h8]; exact hm.done, by rw [h8]; exact hm.dnil⟩
  rw [hm.blk]
  simp only [mCells, h2.1, h2.2.1, h2.2.2, h3, h4, h5, h6, h7]
/-- What the model remembers of the last two steps. -/
def Tied (s : CS) (b l : Int) (br : Bool) : Prop := s.resting = false → br = s.braking ∧ (s.braking = false → b = s.before ∧ l = s.lastStep)
theorem go_end {p : CS} (h : p.Ok) (hi : p.index < p.ms.length) (he : p.part = p.cur.len) :
    p.stop = CS.skip { (CS.cutTo { p with index := p.index + 1, part := 0, plan := [], cov := 0, braking := false } p.cur) with braking := false } := by
  have hpt := h.part hi
  have hpos : p.stop1.pos = p.cur.to := by
    have : p.stop1.pos = p.cur.at' p.part := CS.pos_at (s := p.stop1) hi h.idx.1
    rw [this, he, at_len hpt.1]
  have hpc : p.stop1.piece = (p.stop1.seg, decide (¬ p.last = p.cur.to)) := by
    unfold CS.piece; rw [if_neg (by show ¬ p.index = (p.ms.length : Int); omega), hpos]; rfl
  have hseg : p.stop1.seg = CS.segTo p p.cur := by
    unfold CS.seg CS.segTo; rw [hpos]; rfl
  have hpush : p.stop1.push = { p.stop1 with pieces := p.toP p.cur } := by
    unfold CS.push CS.toP
    rw [hpc]
    by_cases hq : p.last = p.cur.to
    · simp [hq, CS.stop1]
    · simp [hq, CS.stop1]; exact hseg
  have hpos2 : p.stop1.push.pos = p.cur.to := by rw [hpush]; exact hpos
  unfold CS.stop CS.toPos
  rw [hpos2, hpush]
  unfold CS.adv
  rw [if_pos (by show p.cur.len - p.part = 0; omega)]
  rfl
theorem go_rest {p : CS} (h : p.Ok) (hi : p.index < p.ms.length) (he : ¬ p.part = p.cur.len) :
    p.stop = { CS.cut p p.cur with plan := [], cov := 0, braking := false } := by
  have hpc : p.stop1.piece = (p.stop1.seg, decide (¬ p.last = p.pos)) := by
    unfold CS.piece; rw [if_neg (by show ¬ p.index = (p.ms.length : Int); omega)]; rfl
  have hseg : p.stop1.seg = CS.segOf p p.cur := rfl
  have hpush : p.stop1.push = { p.stop1 with pieces := p.cutP p.cur } := by
    unfold CS.push CS.cutP
    rw [hpc]
    by_cases hq : p.last = p.pos
    · simp [hq, CS.stop1]
    · have hq' : ¬ p.pos = p.last := fun e => hq e.symm
      simp [hq, hq', CS.stop1]; exact hseg
  have hpos2 : p.stop1.push.pos = p.pos := by rw [hpush]; rfl
  unfold CS.stop CS.toPos
  rw [hpos2, hpush]
  unfold CS.adv
  rw [if_neg (by show ¬ p.cur.len - p.part = 0; omega)]
  rfl
/-- What the model's tick answers. -/
def tickPost (s : CS) (lv : Value) (M : Nat) (h : Heap) (n : Nat) (r : Value) (h' : Heap) (n' : Nat) : Prop :=
  r = .bool s.moves ∧ ∃ b' l' br', MPost h n M s.tick b' l' br' lv h' n' ∧ Tied s.tick b' l' br'
def at23 (h : Heap) (n M : Nat) (p : CS) (b l : Int) (br : Bool) (lv : Value) (T : TEnv) (h' : Heap) (n' : Nat) : Prop :=
  find T 0 = some (pC M) ∧ find T 3 = some (.pointer (some ⟨n, 0, none⟩)) ∧ n + 1 ≤ n' ∧ h' n = some ⟨p.cur.cells, 38, 0, true⟩ ∧ (∀ L, L < n → L ≠ M → h' L = h L) ∧ Fz h h' ∧ ∃ pl dv, MRepV h' M p b l br lv pl dv
def PreTied (p : CS) (l : Int) (br : Bool) : Prop := br = p.braking ∧ (p.braking = false → l = if 1 ≤ p.cov then p.lastStep else 0)
def at23x (h : Heap) (n M : Nat) (p : CS) (lv : Value) (T : TEnv) (h' : Heap) (n' : Nat) : Prop := ∃ b l br, PreTied p l br ∧ at23 h n M p b l br lv T h' n'
def at23b (h : Heap) (n M : Nat) (s : CS) (lv : Value) (T : TEnv) (h' : Heap) (n' : Nat) : Prop :=
  find T 0 = some (pC M) ∧ ∃ b' l' br', MPost h n M s.tick b' l' br' lv h' n' ∧ Tied s.tick b' l' br'
def at23c (h : Heap) (n M : Nat) (q : CS) (lv : Value) (T : TEnv) (h' : Heap) (n' : Nat) : Prop := find T 0 = some (pC M) ∧ ∃ b l br, MPost h n M q.rest b l br lv h' n' ∧ Tied q.rest b l br
theorem MPost.next {h h1 h2 : Heap} {n n1 n2 M : Nat} {s : CS} {b l : Int} {br : Bool} {lv : Value} (hn : n ≤ n1) (hs : ∀ L, L < n → L ≠ M → h1 L = h L) (hf : Fz h h1) (hp : MPost h1 n1 M s b l br lv h2 n2) : MPost h n M s b l br lv h2 n2 :=
  ⟨by have := hp.1; omega, fun L hL hne => (hp.2.1 L (by omega) hne).trans (hs L hL hne), hf.trans hp.2.2.1, hp.2.2.2⟩
theorem stop_tied {q : CS} (b l : Int) (br : Bool) : Tied q.stop b l br := fun h => by
  obtain ⟨_, _, _, _, e5, e6, _⟩ := stop_eq q
  simp [CS.resting, e5, e6] at h
abbrev u23_1 : List (Nat × Nat) := []
abbrev u23_3 : List (Nat × Nat) := [(3, 10), (7, 10), (9, 10)]
abbrev u23_5 : List (Nat × Nat) := [(1, 5), (5, 8)]
abbrev u23_10 : List (Nat × Nat) := []
abbrev u23_11 : List (Nat × Nat) := []
abbrev u23_12 : List (Nat × Nat) := [(3, 5)]
theorem w23 {h : Heap} {M : Nat} {s : CS} {b l : Int} {br : Bool} {lv pl dv : Value} (hm : MRepV h M s b l br lv pl dv) (hr : s.Run) (hbg : s.Begun) (hpc : s.pieces.length ≤ 100000000000) (ht : Tied s b l br)
    (hst : s.broken = false → s.index < s.ms.length → s.held = false → s.moves = true) (n : Nat) :
    Dm.Spec Try.prog 23 [pC M] h n (tickPost s lv M h n) := by
  refine Spec.body Try.func23 rfl (by kernel_rfl) Try.ntmps23 (by rw [Try.results23]) (Nat.le_of_ble_eq_true rfl) ?_
  refine Sat.lt fun hlt => ?_
  have lM := hlt M _ hm.blk
  have nM := ne2 lM
  obtain ⟨A, c, rfl⟩ := hm.mot.len
  have hidx := hr.ok.idx
  have few := hr.ok.few
  refine Sat.sq ?_
  refine Sat.reg (by kernel_rfl) ?_
  simp -dsimp
  have stay : s.moves = false → tickPost s (.slice A s.ms.length c) M h n (.bool false) h n := fun hmv => by
    have e : s.tick = s := by simp [CS.tick, hmv]
    exact ⟨by rw [hmv], b, l, br, ⟨Nat.le_refl _, fun _ _ _ => rfl, Fz.refl h, pl, dv, by rw [e]; exact hm⟩, by rw [e]; exact ht⟩
  obtain ⟨F, hF, hrd⟩ := hm.reads (g := 52) fun h2 n2 hm => w52 hm hr.cov n2
  refine Sat.join (fun T h' n' => find T 0 = some (pC M) ∧ h' = h ∧ n' = n ∧ s.broken = false ∧ s.index < s.ms.length ∧ (s.resting = true → s.held = false)) ?_ ?_
  · refine Sat.sq ?_
    refine Sat.drw u23_1 mixed (by kernel_rfl) (by kernel_rfl) (by kernel_rfl) (by kernel_rfl) ?_
    cases hbr : s.broken
    · have hbk := hm.blk
      dsimp only [mCells] at hbk
      rw [hbr] at hbk
      by_cases hi : s.index = s.ms.length
      · have hib : (s.index == (s.ms.length : Int)) = true := by simpa using hi
        simp -dsimp [hbk, hib]
        refine Sat.cond (t := true) (by rfl) ?_
        refine Sat.sq ?_
        refine Sat.reg (by kernel_rfl) ?_
        simp -dsimp
        refine Sat.ret ?_
        try simp -dsimp only [thenH_ret, blockA_ret, thenA_ret]
        exact RetQ.ret (r := .bool false) (by rfl) (stay (by simp [CS.moves, hi]))
      · have hib : (s.index == (s.ms.length : Int)) = false := by simpa using hi
        cases hh : s.held
        · rw [hh] at hbk
          simp -dsimp [hbk, hib]
          refine Sat.cond (t := false) (by rfl) ?_
          refine Sat.skip ?_
          simp -dsimp
          omega
        · rw [hh] at hbk
          simp -dsimp [hbk, hib]
          refine callD.reads _ F hrd ?_
          cases hq : s.resting
          · simp -dsimp
            refine Sat.cond (t := false) (by rfl) ?_
            refine Sat.skip ?_
            simp -dsimp
            omega
          · simp -dsimp
            refine Sat.cond (t := true) (by rfl) ?_
            refine Sat.sq ?_
            refine Sat.reg (by kernel_rfl) ?_
            simp -dsimp
            refine Sat.ret ?_
            try simp -dsimp only [thenH_ret, blockA_ret, thenA_ret]
            exact RetQ.ret (r := .bool false) (by rfl) (stay (by simp [CS.moves, hh, hq]))
    · have hbk := hm.blk
      dsimp only [mCells] at hbk
      rw [hbr] at hbk
      simp -dsimp [hbk]
      refine Sat.cond (t := true) (by rfl) ?_
      refine Sat.sq ?_
      refine Sat.reg (by kernel_rfl) ?_
      simp -dsimp
      refine Sat.ret ?_
      try simp -dsimp only [thenH_ret, blockA_ret, thenA_ret]
      exact RetQ.ret (r := .bool false) (by rfl) (stay (by simp [CS.moves, hbr]))
  rintro T h1 n1 ⟨t0, rfl, rfl, hbr, hi, hrh⟩
  have hn := hr.ok.near _ (cur_mem hidx.1 hi)
  obtain ⟨B, o, sp, bb, hB, hbo, am⟩ := hm.mot.mot hidx.1 hi
  change AtMot _ s.index s.cur B o sp bb at am
  refine Sat.sq ?_
  refine Sat.drw u23_3 mixed (by kernel_rfl) (by kernel_rfl) (by kernel_rfl) (by kernel_rfl) ?_
  have nB := ne2 (hlt B _ hB)
  simp -dsimp [t0, hm.blk, nM, nB, -indexAddrA, am.idx, ↓am.l38, hB]
  have hf1 : Fz h1 (upd h1 n1 ⟨s.cur.cells, 38, 0, true⟩) := fun L b' x _ => by have := hlt L b' x; rw [upd_at, if_neg (by omega)]; exact x
  have hm1 : MRepV (upd h1 n1 ⟨s.cur.cells, 38, 0, true⟩) M s b l br (.slice A s.ms.length c) pl dv := hm.fz (by rw [upd_at, if_neg (by omega)]) hf1
  have hB1 : upd h1 n1 ⟨s.cur.cells, 38, 0, true⟩ n1 = some ⟨s.cur.cells, 38, 0, true⟩ := by rw [upd_at, if_pos rfl]
  have hl1 := lt_fresh (b := ⟨s.cur.cells, 38, 0, true⟩) hlt
  have hk1 : ∀ L, L < n1 → upd h1 n1 ⟨s.cur.cells, 38, 0, true⟩ L = h1 L := fun L hL => by rw [upd_at, if_neg (by omega)]
  have hB1' := hB1
  dsimp only [Mot.cells] at hf1 hm1 hB1 hl1 hk1
  dsimp only [Mot.cells] at hB1'
  generalize upd h1 n1 _ = g1 at *
  have hnM1 := ne2 (show M < n1 + 1 by omega)
  have hpt := hr.ok.part hi
  have hll := Mot.len_in hn
  refine Sat.join (at23x h1 n1 M s.planned (.slice A s.ms.length c)) ?_ ?_
  · refine Sat.sq ?_
    refine Sat.reg (by kernel_rfl) ?_
    simp -dsimp [t0]
    refine (w52 hm1 hr.cov _).useH ?_
    cases hq : s.resting
    · simp -dsimp
      refine Sat.cond (t := false) (by rfl) ?_
      refine Sat.skip ?_
      simp -dsimp
      have hp : s.planned = s := by simp [CS.planned, hq]
      rw [hp]
      obtain ⟨t1, t2⟩ := ht hq
      refine ⟨b, l, br, ⟨t1, fun hbk => ?_⟩, by simp [find, t0], rfl, by omega, hB1, fun L hL _ => hk1 L hL, hf1, pl, dv, hm1⟩
      have hcv : s.cov < s.plan.length := by
        have := hr.cov.2
        simp only [CS.resting, decide_eq_false_iff_not] at hq
        omega
      rw [if_pos (hbg hcv hbk)]; exact (t2 hbk).2
    · have hmv := hst hbr hi (hrh hq)
      have hst2 : s.steps.2 = 0 ∧ s.steps.1.length ≠ 0 := by
        have := hmv
        simp only [CS.moves, Bool.and_eq_true, Bool.or_eq_true, Bool.not_eq_true', hq, decide_eq_true_eq] at this
        rcases this.2 with h | h
        · cases h
        · exact ⟨h.1.2, h.2⟩
      have hp : s.planned = { s with plan := s.steps.1, cov := 0, braking := false } := by simp [CS.planned, hq]
      simp -dsimp
      refine Sat.cond (t := true) (by rfl) ?_
      refine Sat.sq ?_
      refine Sat.drw u23_5 mixed (by kernel_rfl) (by kernel_rfl) (by kernel_rfl) (by kernel_rfl) ?_
      have W : IntKind.i64.wrap (s.cur.len - s.part) = s.cur.len - s.part := wrap_in (by omega) (by omega)
      simp -dsimp [hB1]
      refine callD.pure (w17 _ hn) ?_
      obtain ⟨F6, hF6, hrd6⟩ := hm1.reads (g := 60) fun h2 n2 hm => w60 hm hr.ok hi n2
      simp -dsimp [t0, hm1.blk, W]
      refine callD.reads _ F6 hrd6 ?_
      simp -dsimp
      obtain ⟨Ag, cg, eg⟩ := gcv_val (n1 + 1) 1 s.steps.1.length
      obtain ⟨ro, hsame, hlt2⟩ := gc_ro (e := 2) hl1 (ints_length s.steps.1)
      refine callD.heavy _ _ _ (by omega) (gcu_lt _ _ _ _ _) (show Dm.Spec Try.prog 16 _ g1 (n1 + 1) fun r h' n' => r = .tuple #[gcv (n1 + 1) 1 s.steps.1.length, .int .i64 s.steps.2] ∧ h' = applyU g1 (gcu (n1 + 1) 2 (ints s.steps.1) s.steps.1.length false) ∧ n' = n1 + 1 + 1 from w16' _ _ _ _ g1 (n1 + 1) false) ?_
      generalize applyU g1 (gcu (n1 + 1) 2 (ints s.steps.1) s.steps.1.length false) = h2 at *
      have hm2 : MRepV h2 M s b l br (.slice A s.ms.length c) pl dv := hm1.fz (hsame _ (by omega)) (fun L b' x _ => by rw [hsame L (hl1 L b' x)]; exact x)
      rw [eg] at ro
      rw [eg]
      rw [hst2.1]
      have hk0 : ¬ s.steps.1.length = 0 := hst2.2
      have hk1' : ((s.steps.1.length : Int) == 0) = false := beq_eq_false_iff_ne.2 (by omega)
      have nM2 := ne2 (show M < n1 + 1 + 1 by omega)
      have nM2' := ne2 (show M < n1 + 2 by omega)
      simp -dsimp
      refine Sat.sq ?_
      refine Sat.sq ?_
      refine Sat.reg (by kernel_rfl) ?_
      simp -dsimp [hk1']
      refine Sat.ite rfl (fun hk => absurd ?_ hk0) (fun hk => ?_)
      · simp at hk
      refine Sat.skip ?_
      simp -dsimp
      refine Sat.reg (by kernel_rfl) ?_
      simp -dsimp [t0, hm2.blk, nM2, nM2']
      rw [hp]
      refine ⟨0, 0, false, ⟨rfl, fun _ => by rw [if_neg (by simp)]⟩, by simp [find, t0], rfl, by omega, ?_, fun L hL hne => ?_, ?_, .slice Ag s.steps.1.length cg, dv, hm2.put (s' := { s with plan := s.steps.1, cov := 0, braking := false }) rfl (by simpa using ro) hm2.done hm2.dnil⟩
      · rw [upd_at, if_neg (by omega), hsame _ (by omega)]; exact hB1
      · rw [upd_at, if_neg hne, hsame _ (by omega)]; exact hk1 L hL
      · intro L b' x y
        have hne : L ≠ M := by intro e; subst e; rw [hm.blk] at x; cases x; cases y
        rw [upd_at, if_neg hne, hsame _ (by have := hlt L b' x; omega)]; exact hf1 L b' x y
  have hmv : s.moves = true := by
    cases hq : s.resting
    · have : ¬ s.index = s.ms.length := by omega
      simp [CS.moves, hbr, hq, this]
    · exact hst hbr hi (hrh hq)
  obtain ⟨_, _, hpr, hpc2⟩ := hr.mv hmv
  have htick : s.tick = s.planned.go.rest := by simp [CS.tick, hmv]
  obtain ⟨c1, c2, c3, c4, c5, c6, c7, c8, c9, c10⟩ := planned_eq s
  have hcur : s.planned.cur = s.cur := by unfold CS.cur; rw [c1, c5]
  have hpcs : s.planned.pieces.length ≤ 100000000000 := by rw [c10]; exact hpc
  rw [← hcur] at hn hll
  rw [← c1, ← c5] at hi
  have hlen : s.ms.length = s.planned.ms.length := by rw [c1]
  clear hB1 hB1' hk1 hl1 hm1 hf1
  rintro T h3 n3 ⟨b1, l1, br1, ⟨pt1, pt2⟩, t0, t3, hn3, hB3, hs3, hf3, pl1, dv1, hm3⟩
  refine Sat.lt fun hlt3 => ?_
  have nM3 := ne2 (show M < n3 by omega)
  rw [hlen] at hm3
  have hfin : ∀ r, tickPost s (.slice A s.ms.length c) M h1 n1 r = fun h' n' => r = .bool s.moves ∧ ∃ b' l' br', MPost h1 n1 M s.planned.go.rest b' l' br' (.slice A s.planned.ms.length c) h' n' ∧ Tied s.planned.go.rest b' l' br' := by
    intro r; funext h' n'; rw [← htick, ← hlen]; rfl
  generalize s.planned = p at *
  have hpp := hpr.part_le hpc2
  have hgo := hpr.go hpc2
  obtain ⟨Ap, cp, rfl⟩ := hm3.plan.len
  have hdl : 0 < (p.plan.drop p.cov.toNat).length := by have := hpr.cov; simp; omega
  have hd0 : (p.plan.drop p.cov.toNat)[(0 : Int).toNat]! = p.plan[p.cov.toNat]! := by simp
  obtain ⟨B3, o3, sp3, bb3, hBp, hbo3, idx, ld⟩ := hm3.plan.int (i := 0) (by omega) (by omega)
  rw [hd0] at ld
  generalize hlq : (p.plan.drop p.cov.toNat).length = lq at *
  generalize hdv : p.plan[p.cov.toNat]! = dd at *
  have hcov := hpr.cov
  have hMB : ¬ B3 = M := by intro e; subst e; rw [hm3.blk] at hBp; cases hBp; cases hbo3
  have hMB' : ¬ M = B3 := fun e => hMB e.symm
  refine Sat.sq ?_
  refine Sat.drw u23_10 mixed (by kernel_rfl) (by kernel_rfl) (by kernel_rfl) (by kernel_rfl) ?_
  simp -dsimp [t0, hm3.blk, -indexAddrA, idx, ↓ld, hBp, hMB, hMB', nM3]
  have hm4 : MRepV (upd h3 M ⟨mCells (.slice A p.ms.length c) (.slice Ap lq cp) dv1 p l1 dd br1, 52, 0, true⟩) M p l1 dd br1 (.slice A p.ms.length c) (.slice Ap lq cp) dv1 := hm3.put rfl hm3.plan hm3.done hm3.dnil
  have hB4 : upd h3 M ⟨mCells (.slice A p.ms.length c) (.slice Ap lq cp) dv1 p l1 dd br1, 52, 0, true⟩ n1 = some ⟨p.cur.cells, 38, 0, true⟩ := by rw [upd_at, if_neg (by omega)]; exact hB3
  have hBp4 : upd h3 M ⟨mCells (.slice A p.ms.length c) (.slice Ap lq cp) dv1 p l1 dd br1, 52, 0, true⟩ B3 = some bb3 := by rw [upd_at, if_neg hMB]; exact hBp
  have hs4 : ∀ L, L < n1 → L ≠ M → upd h3 M ⟨mCells (.slice A p.ms.length c) (.slice Ap lq cp) dv1 p l1 dd br1, 52, 0, true⟩ L = h1 L := fun L hL hne => by rw [upd_at, if_neg hne]; exact hs3 L hL hne
  dsimp only [mCells] at hm4 hB4 hBp4 hs4
  have hd0' : (p.plan.drop p.cov.toNat)[0]! = dd := hd0
  generalize upd h3 M _ = h4 at *
  obtain ⟨sv, hsv, hro5⟩ := hm4.plan.dropI (i := 1) (by omega) (by rw [hlq]; omega)
  rw [show (1 : Int).toNat = 1 from rfl, List.drop_drop] at hro5
  have hgp : p.go.plan.drop p.go.cov.toNat = p.plan.drop (p.cov.toNat + 1) := by
    show p.plan.drop (p.cov + 1).toNat = _
    rw [show (p.cov + 1).toNat = p.cov.toNat + 1 by omega]
  rw [← hgp] at hro5
  obtain ⟨A5, c5', rfl⟩ := hro5.len
  generalize hlg : (p.go.plan.drop p.go.cov.toNat).length = lg at hsv hro5
  have W : IntKind.i64.wrap (p.part + dd) = p.part + dd := wrap_in (by have := hpr.ok.part hi; omega) (by have := hpr.ok.part hi; omega)
  refine Sat.sq ?_
  refine Sat.drw u23_11 mixed (by kernel_rfl) (by kernel_rfl) (by kernel_rfl) (by kernel_rfl) ?_
  simp -dsimp [t0, hm4.blk, -indexAddrA, idx, ↓ld, hBp4, hMB, hMB', -sliceA, hsv, W, nM3]
  have hm5 : MRepV (upd h4 M ⟨mCells (.slice A p.ms.length c) (.slice A5 lg c5') dv1 p.go l1 dd br1, 52, 0, true⟩) M p.go l1 dd br1 (.slice A p.ms.length c) (.slice A5 lg c5') dv1 := hm4.put rfl (by rw [hlg]; exact hro5) hm4.done hm4.dnil
  have hB5 : upd h4 M ⟨mCells (.slice A p.ms.length c) (.slice A5 lg c5') dv1 p.go l1 dd br1, 52, 0, true⟩ n1 = some ⟨p.cur.cells, 38, 0, true⟩ := by rw [upd_at, if_neg (by omega)]; exact hB4
  have hs5 : ∀ L, L < n1 → L ≠ M → upd h4 M ⟨mCells (.slice A p.ms.length c) (.slice A5 lg c5') dv1 p.go l1 dd br1, 52, 0, true⟩ L = h1 L := fun L hL hne => by rw [upd_at, if_neg hne]; exact hs4 L hL hne
  have hf5 : Fz h1 (upd h4 M ⟨mCells (.slice A p.ms.length c) (.slice A5 lg c5') dv1 p.go l1 dd br1, 52, 0, true⟩) := fun L b' x y => by
    have hne : L ≠ M := by intro e; subst e; rw [hm.blk] at x; cases x; cases y
    rw [hs5 L (hlt L b' x) hne]; exact x
  obtain ⟨h5, hh5⟩ : ∃ h5, upd h4 M ⟨mCells (.slice A p.ms.length c) (.slice A5 lg c5') dv1 p.go l1 dd br1, 52, 0, true⟩ = h5 := ⟨_, rfl⟩
  rw [hh5] at hm5 hB5 hs5 hf5
  dsimp only [mCells, CS.go] at hh5
  rw [hdv] at hh5
  rw [hh5]
  have hgi : p.go.index < p.go.ms.length := hi
  have hgc : p.go.cur = p.cur := rfl
  have hgp2 : p.go.pieces.length ≤ 100000000000 := hpcs
  have htied : Tied p.go l1 dd br1 := fun hx => ⟨pt1, fun hbk => ⟨?_, ?_⟩⟩
  rotate_left
  · rw [pt2 hbk]
    show (if 1 ≤ p.cov then p.lastStep else 0) = if 1 < p.cov + 1 then p.plan[(p.cov + 1 - 2).toNat]! else 0
    by_cases h1c : 1 ≤ p.cov
    · rw [if_pos h1c, if_pos (by omega), show p.cov + 1 - 2 = p.cov - 1 by omega]; rfl
    · rw [if_neg h1c, if_neg (by omega)]
  · show dd = p.plan[(p.cov + 1 - 1).toNat]!
    rw [show p.cov + 1 - 1 = p.cov by omega]; exact hdv.symm
  have hgms : p.go.ms.length = p.ms.length := rfl
  rw [← hgc] at hB5 hn hll
  rw [← hgms] at hm5
  rw [← htick] at hfin
  have hrest : s.tick = p.go.rest := htick
  generalize p.go = q at *
  clear hm4 hB4 hBp4 hs4 hsv hro5 hBp hm3 hB3 hs3 hf3 hlt3
  have hqp := hgo.ok.part hgi
  have hqi := hgo.ok.idx
  have hqf := hgo.ok.few
  refine Sat.join (at23c h1 n1 M q (.slice A q.ms.length c)) ?_ ?_
  · refine Sat.sq ?_
    refine Sat.drw u23_12 mixed (by kernel_rfl) (by kernel_rfl) (by kernel_rfl) (by kernel_rfl) ?_
    dsimp only [Mot.cells] at hB5
    simp -dsimp [t0, t3, hm5.blk, hB5, nM3]
    refine callD.pure (w17 _ hn) ?_
    simp -dsimp
    refine Sat.ite rfl (fun hz => ?_) (fun hz => ?_)
    · have hz : q.part = q.cur.len := by simpa using hz
      have hrs : q.resting = true := by
        cases hx : q.resting with
        | true => rfl
        | false =>
          have hcv : q.cov < q.plan.length := by
            have := hgo.cov.2
            simp only [CS.resting, decide_eq_false_iff_not] at hx
            omega
          have := hgo.part_le hcv
          omega
      have W2 : IntKind.i64.wrap (q.index + 1) = q.index + 1 := wrap_in (by omega) (by omega)
      refine Sat.sq ?_
      refine Sat.reg (by kernel_rfl) ?_
      simp -dsimp [t0, hm5.blk, W2, nM3]
      have hm6 : MRepV (upd h5 M ⟨mCells (.slice A q.ms.length c) (.slice none 0 0) dv1 { q with index := q.index + 1, part := 0, plan := [], cov := 0, braking := false } l1 dd br1, 52, 0, true⟩) M { q with index := q.index + 1, part := 0, plan := [], cov := 0, braking := false } l1 dd br1 (.slice A q.ms.length c) (.slice none 0 0) dv1 := hm5.put rfl RO.nil hm5.done hm5.dnil
      have hB6 : upd h5 M ⟨mCells (.slice A q.ms.length c) (.slice none 0 0) dv1 { q with index := q.index + 1, part := 0, plan := [], cov := 0, braking := false } l1 dd br1, 52, 0, true⟩ n1 = some ⟨q.cur.cells, 38, 0, true⟩ := by rw [upd_at, if_neg (by omega)]; exact hB5
      have hs6 : ∀ L, L < n1 → L ≠ M → upd h5 M ⟨mCells (.slice A q.ms.length c) (.slice none 0 0) dv1 { q with index := q.index + 1, part := 0, plan := [], cov := 0, braking := false } l1 dd br1, 52, 0, true⟩ L = h1 L := fun L hL hne => by rw [upd_at, if_neg hne]; exact hs5 L hL hne
      obtain ⟨h6, hh6⟩ : ∃ h6, upd h5 M ⟨mCells (.slice A q.ms.length c) (.slice none 0 0) dv1 { q with index := q.index + 1, part := 0, plan := [], cov := 0, braking := false } l1 dd br1, 52, 0, true⟩ = h6 := ⟨_, rfl⟩
      rw [hh6] at hm6 hB6 hs6
      dsimp only [mCells] at hh6
      dsimp only [Mot.cells] at hB6
      rw [hh6]
      have hf6 : Fz h1 h6 := fun L b' x y => by
        have hne : L ≠ M := by intro e; subst e; rw [hm.blk] at x; cases x; cases y
        rw [hs6 L (hlt L b' x) hne]; exact x
      refine Sat.sq ?_
      refine Sat.reg (by kernel_rfl) ?_
      simp -dsimp [t0, t3, hB6]
      refine (w61 hm6 hgp2 q.cur _).onH ?_
      rintro r h7 n7 ⟨rfl, hp7⟩
      obtain ⟨hn7, hs7, hf7, pl7, dv7, hm7⟩ := hp7.next (by omega) hs6 hf6
      simp -dsimp
      refine Sat.reg (by kernel_rfl) ?_
      simp -dsimp [t0]
      refine (w53 hm7 hgo.ok.near hqf ⟨by show 0 ≤ q.index + 1; omega, by show q.index + 1 ≤ (q.ms.length : Int); omega⟩ _).useH ?_
      simp -dsimp
      have e : q.rest = (CS.cutTo { q with index := q.index + 1, part := 0, plan := [], cov := 0, braking := false } q.cur).skip := by
        rw [CS.rest, if_pos hrs, go_end hgo.ok hgi hz]; rfl
      have hm8 := hm7.put (s' := (CS.cutTo { q with index := q.index + 1, part := 0, plan := [], cov := 0, braking := false } q.cur).skip) (b' := l1) (l' := dd) (br' := br1) rfl hm7.plan hm7.done hm7.dnil
      refine ⟨by simp [t0, find], l1, dd, br1, ⟨hn7, fun L hL hne => ?_, fun L b' x y => ?_, _, _, by rw [e]; exact hm8⟩, by rw [CS.rest, if_pos hrs]; exact stop_tied _ _ _⟩
      · rw [upd_at, if_neg hne]; exact hs7 L hL hne
      · have hne : L ≠ M := by intro e; subst e; rw [hm.blk] at x; cases x; cases y
        rw [upd_at, if_neg hne]; exact hf7 L b' x y
    · have hz : ¬ q.part = q.cur.len := by simpa using hz
      refine Sat.sq ?_
      refine Sat.reg (by kernel_rfl) ?_
      simp -dsimp [t0]
      refine (w52 hm5 hgo.cov _).useH ?_
      cases hrs : q.resting
      · simp -dsimp
        refine Sat.cond (t := false) (by rfl) ?_
        refine Sat.skip ?_
        simp -dsimp
        have e : q.rest = q := by rw [CS.rest, hrs]; rfl
        exact ⟨by simp [t0, find], l1, dd, br1, ⟨by omega, hs5, hf5, _, _, by rw [e]; exact hm5⟩, by rw [e]; exact htied⟩
      · simp -dsimp
        refine Sat.cond (t := true) (by rfl) ?_
        refine Sat.reg (by kernel_rfl) ?_
        simp -dsimp [t0, t3, hB5]
        refine (w62 hm5 hgo.ok hgp2 q.cur _).onH ?_
        rintro r h7 n7 ⟨rfl, hp7⟩
        obtain ⟨hn7, hs7, hf7, pl7, dv7, hm7⟩ := hp7.next (by omega) hs5 hf5
        simp -dsimp
        have e : q.rest = { CS.cut q q.cur with plan := [], cov := 0, braking := false } := by
          rw [CS.rest, if_pos hrs, go_rest hgo.ok hgi hz]
        have hd : q.plan.drop q.cov.toNat = [] := by
          simp only [CS.resting, decide_eq_true_eq] at hrs
          rw [List.drop_eq_nil_iff]; omega
        refine ⟨by simp [t0, find], l1, dd, br1, ⟨hn7, hs7, hf7, pl7, dv7, ?_⟩, by rw [CS.rest, if_pos hrs]; exact stop_tied _ _ _⟩
        rw [e]
        exact hm7.congr rfl ⟨rfl, rfl, rfl⟩ rfl rfl rfl rfl rfl rfl hd.symm
  rintro T h9 n9 ⟨t0, b9, l9, br9, hp9, ht9⟩
  refine Sat.sq ?_
  refine Sat.reg (by kernel_rfl) ?_
  simp -dsimp
  refine Sat.ret ?_
  try simp -dsimp only [thenH_ret, blockA_ret, thenA_ret]
  refine RetQ.ret (r := .bool true) (by rfl) ⟨by rw [hmv], b9, l9, br9, ?_, by rw [hrest]; exact ht9⟩
  rw [hrest]
  rw [hgms, ← hlen] at hp9
  exact hp9

end Go.Proofs.Ytoinimkmoojcoaa
/- Walks, part N5. -/
set_option maxRecDepth 100000
set_option maxHeartbeats 4000000
set_option linter.unusedSimpArgs false
set_option linter.unusedVariables false
namespace Go.Proofs.Ytoinimkmoojcoaa
open Go Go.Dm
attribute [local simp ↓] RunS_nil RunS_op RunS_guard RunT_nil RunT_op RunT_guard opS_call opD_call opS_move opD_move opS_assign opD_assign opS_pick opD_pick opS_nilCheck opD_nilCheck opS_fieldAddr opD_fieldAddr opS_indexAddr opD_indexAddr opS_load opD_load opS_store opD_store opS_alloc opD_alloc opS_box opD_box opS_build opD_build opS_buildSlice opD_buildSlice opS_field opD_field opS_extract opD_extract opS_makeFunc opD_makeFunc opS_slice opD_slice opS_binOp opD_binOp opS_unOp opD_unOp opS_convert opD_convert opS_index opD_index opS_len opD_len opS_append opD_append opS_max opD_max opS_min opD_min obind_some obind_none thenH_normal thenH_ret thenH_exit blockA_normal blockA_ret blockA_exit thenA_normal thenA_ret thenA_exit dstAt_mk dstL_zero dstL_succ
attribute [local simp] undef wantG_bool wantG_undef findO_some calleeS find putA ev closed3 closed2 closed1 closed0 pickA binF unF convF mxF eqNilA fastBin fastUn fastConv intBin argEnv resultsA resultsL resultA notTuple allocs eff
  loadO storeO allocO boxO sliceO indexO indexAddrA loadA storeA newA isAggT nilCheckA lenA evAll evParts aadd gen upd_at upd_upd Value.cells mxV Pairs apart readsS labOf putAt fieldA partA extractA makeFuncA evOpt boundOf sliceA Nat.add_assoc
attribute [local simp] bu107_z bu107_0_1 bu25_0_1_2 bu36_z bu36_0_1 bu36_0_1_2 bu36_0 bu38_z bu38_0_1_2_3_4 bu38_0_1_3 bu38_0_1_3_4 bu38_1_2 bu38_1_2_3 bu52_0_1_10 bu81_0_1 bs22_0_z bs22_1_0 bs22_2_0_1 bs39_1_0 bs39_7_0_1_2_3_4_5_6 bs95_4_0_1_2_3
attribute [local simp ↓] eql107 neq107 eql36 neq36 eql38 neq38 eql25 neq25
attribute [local simp] fa25_0 fa25_1 fa25_2 fa36_0 fa36_1 fa36_2 fa38_0 fa38_1 fa38_2 fa38_3 fa38_4 fa107_0 fa107_1 fa81_0 fa81_1 fa81_2 fa81_3 fa81_4 fa81_5 fa81_6 fa81_7 fa81_8 fa81_9 fa81_10 fa52_0 fa52_1 fa52_2 fa52_3 fa52_4 fa52_5 fa52_6 fa52_7 fa52_8 fa52_9 fa52_10 fa52_11 fa52_12
attribute [local simp] c22 c39 c29 z22 z39 c25 c38 c2 c3 c4 c36 c107 c30 z25 z38 z2 z3 z4 z36 z107 b38 b25 b107 h38 h25 h36 h107 g38 g25 g36 g107 Try.underlying25 Try.underlying38 Try.underlying2 Try.underlying3 Try.underlying4 Try.underlying36 Try.underlying22 Try.underlying39 Try.underlying29 Try.underlying81 Try.underlying107 Try.underlying30
attribute [local simp] mx mn
attribute [local simp] c52 z52 b52 h52 g52 Try.underlying52 Try.underlying44
/-- Before each hold: what layer 49 needs to brake. -/
def CS.Soft (s : CS) : Prop := s.resting = false → s.braking = false → movingM s.lim s.A s.J s.before s.lastStep = true
def holdPost (s : CS) (lv : Value) (M : Nat) (h : Heap) (n : Nat) (r : Value) (h' : Heap) (n' : Nat) : Prop :=
  r = .tuple #[] ∧ ∃ b' l' br', MPost h n M s.hold b' l' br' lv h' n' ∧ Tied s.hold b' l' br'
abbrev u69_3 : List (Nat × Nat) := [(3, 10), (7, 10), (9, 10)]
abbrev u69_4 : List (Nat × Nat) := [(3, 9), (7, 9)]
abbrev u69_5 : List (Nat × Nat) := [(3, 9), (7, 9)]
abbrev u69_7 : List (Nat × Nat) := [(2, 6)]
theorem w69 {h : Heap} {M : Nat} {s : CS} {b l : Int} {br : Bool} {lv pl dv : Value} (hm : MRepV h M s b l br lv pl dv) (hr : s.Run) (hsoft : s.Soft) (hpc : s.pieces.length ≤ 100000000000) (ht : Tied s b l br) (n : Nat) :
    Dm.Spec Try.prog 69 [pC M] h n (holdPost s lv M h n) := by
  refine Spec.body Try.func69 rfl (by kernel_rfl) Try.ntmps69 (by rw [Try.results69]) (Nat.le_of_ble_eq_true rfl) ?_
  refine Sat.lt fun hlt => ?_
  have lM := hlt M _ hm.blk
  have nM := ne2 lM
  have nM1 := ne2 (show M < n + 1 by omega)
  have nM2 := ne2 (show M < n + 2 by omega)
  obtain ⟨A, c, rfl⟩ := hm.mot.len
  have hidx := hr.ok.idx
  have few := hr.ok.few
  refine Sat.sq ?_
  refine Sat.sq ?_
  refine Sat.reg (by kernel_rfl) ?_
  simp -dsimp [hm.blk]
  cases hbr : s.broken
  rotate_left
  · have hh : s.hold = s := by simp [CS.hold, hbr]
    refine Sat.cond (t := true) (by rfl) ?_
    refine Sat.ret ?_
    try simp -dsimp only [thenH_ret, blockA_ret, thenA_ret]
    refine RetQ.ret (r := .tuple #[]) (by rfl) ⟨rfl, b, l, br, ⟨Nat.le_refl _, fun _ _ _ => rfl, Fz.refl h, pl, dv, by rw [hh]; exact hm⟩, by rw [hh]; exact ht⟩
  refine Sat.cond (t := false) (by rfl) ?_
  refine Sat.skip ?_
  simp -dsimp
  refine Sat.sq ?_
  refine Sat.reg (by kernel_rfl) ?_
  simp -dsimp [hm.blk, nM]
  have hm1 : MRepV (upd h M ⟨mCells (.slice A s.ms.length c) pl dv { s with held := true } b l br, 52, 0, true⟩) M { s with held := true } b l br (.slice A s.ms.length c) pl dv := hm.put rfl hm.plan hm.done hm.dnil
  have hl1 := lt_upd (b := ⟨mCells (.slice A s.ms.length c) pl dv { s with held := true } b l br, 52, 0, true⟩) hlt lM
  have hs1 : ∀ L, L < n → L ≠ M → upd h M ⟨mCells (.slice A s.ms.length c) pl dv { s with held := true } b l br, 52, 0, true⟩ L = h L := fun L _ hne => by rw [upd_at, if_neg hne]
  obtain ⟨g1, hh1⟩ : ∃ g1, upd h M ⟨mCells (.slice A s.ms.length c) pl dv { s with held := true } b l br, 52, 0, true⟩ = g1 := ⟨_, rfl⟩
  rw [hh1] at hm1 hl1 hs1
  dsimp only [mCells] at hh1
  rw [hh1]
  have nobrake : s.brakes = false → s.hold = { s with held := true } := fun hq => by simp [CS.hold, hbr, hq]
  have ffz : ∀ g : Heap, (∀ L, L < n → L ≠ M → g L = h L) → Fz h g := fun g hs L b' x y => by
    rw [hs L (hlt L b' x) (by intro e; subst e; rw [hm.blk] at x; cases x; cases y)]; exact x
  have fin : ∀ {g : Heap} {p : Nat} {pl' dv' : Value}, n ≤ p → (∀ L, L < n → L ≠ M → g L = h L) → MRepV g M { s with held := true } b l br (.slice A s.ms.length c) pl' dv' → s.brakes = false → holdPost s (.slice A s.ms.length c) M h n (.tuple #[]) g p := fun hp hs hm hq =>
    ⟨rfl, b, l, br, ⟨hp, hs, ffz _ hs, _, _, by rw [nobrake hq]; exact hm⟩, by rw [nobrake hq]; exact ht⟩
  refine Sat.sq ?_
  refine Sat.sq ?_
  refine Sat.reg (by kernel_rfl) ?_
  simp -dsimp
  refine (w52 hm1 hr.cov _).useH ?_
  rw [show CS.resting { s with held := true } = s.resting from rfl]
  cases hq1 : s.resting
  rotate_left
  · simp -dsimp
    refine Sat.cond (t := true) (by rfl) ?_
    refine Sat.ret ?_
    try simp -dsimp only [thenH_ret, blockA_ret, thenA_ret]
    exact RetQ.ret (r := .tuple #[]) (by rfl) (fin (Nat.le_refl _) hs1 hm1 (by simp [CS.brakes, hq1]))
  obtain ⟨tb, tl⟩ := ht hq1
  cases hq2 : s.braking
  rotate_left
  · rw [hq2] at tb
    subst tb
    simp -dsimp [hm1.blk]
    refine Sat.cond (t := true) (by rfl) ?_
    refine Sat.ret ?_
    try simp -dsimp only [thenH_ret, blockA_ret, thenA_ret]
    exact RetQ.ret (r := .tuple #[]) (by rfl) (fin (Nat.le_refl _) hs1 hm1 (by simp [CS.brakes, hq2]))
  rw [hq2] at tb
  subst tb
  obtain ⟨rfl, rfl⟩ := tl hq2
  have hmov := hsoft hq1 hq2
  have hcv : s.cov < s.plan.length := by
    have := hr.cov.2
    simp only [CS.resting, decide_eq_false_iff_not] at hq1
    omega
  have hi := (hr.sum hcv).1
  have hpl := hr.part_le hcv
  have hpt := hr.ok.part hi
  have hn := hr.ok.near _ (cur_mem hidx.1 hi)
  have hll := Mot.len_in hn
  have hn2 : s.needed.2 = 0 := by unfold CS.needed neededM; rw [if_pos hmov]
  have hs2 : s.stopping.2 = 0 := by unfold CS.stopping stopM; rw [if_pos hmov]
  simp -dsimp [hm1.blk]
  refine Sat.cond (t := false) (by rfl) ?_
  refine Sat.skip ?_
  simp -dsimp
  obtain ⟨B, o, sp, bb, hB, hbo, am⟩ := hm1.mot.mot hidx.1 hi
  change AtMot _ s.index s.cur B o sp bb at am
  have nB := ne2 (hl1 B _ hB)
  refine Sat.sq ?_
  refine Sat.drw u69_3 mixed (by kernel_rfl) (by kernel_rfl) (by kernel_rfl) (by kernel_rfl) ?_
  simp -dsimp [hm1.blk, nM, nB, -indexAddrA, am.idx, ↓am.l38, hB]
  have hm2 : MRepV (upd g1 n ⟨s.cur.cells, 38, 0, true⟩) M { s with held := true } s.before s.lastStep false (.slice A s.ms.length c) pl dv := hm1.fz (by rw [upd_at, if_neg (by omega)]) (fun L b' x _ => by have := hl1 L b' x; rw [upd_at, if_neg (by omega)]; exact x)
  have hB2 : upd g1 n ⟨s.cur.cells, 38, 0, true⟩ n = some ⟨s.cur.cells, 38, 0, true⟩ := by rw [upd_at, if_pos rfl]
  have hl2 := lt_fresh (b := ⟨s.cur.cells, 38, 0, true⟩) hl1
  have hs2' : ∀ L, L < n → L ≠ M → upd g1 n ⟨s.cur.cells, 38, 0, true⟩ L = h L := fun L hL hne => by rw [upd_at, if_neg (by omega)]; exact hs1 L hL hne
  dsimp only [Mot.cells] at hm2 hB2 hl2 hs2'
  generalize upd g1 n _ = g2 at *
  obtain ⟨F6, hF6, hrd6⟩ := hm2.reads (g := 60) fun h2 n2 hm => w60 hm (hr.held true).ok hi n2
  change ∀ h2 n2, (∀ L ∈ F6, h2 L = g2 L) → Dm.Spec Try.prog 60 [pC M] h2 n2 fun r' h' n' => r' = .agg #[.int .i64 s.lim, .int .i64 s.A, .int .i64 s.J] ∧ h' = h2 ∧ n' = n2 at hrd6
  refine Sat.sq ?_
  refine Sat.drw u69_4 mixed (by kernel_rfl) (by kernel_rfl) (by kernel_rfl) (by kernel_rfl) ?_
  simp -dsimp [hm2.blk]
  refine callD.reads _ F6 hrd6 ?_
  simp -dsimp
  refine callD.pure (w65 _ _ _ _ _) ?_
  rw [show neededM s.lim s.A s.J s.before s.lastStep = s.needed from rfl, hn2]
  simp -dsimp
  refine Sat.sq ?_
  refine Sat.drw u69_5 mixed (by kernel_rfl) (by kernel_rfl) (by kernel_rfl) (by kernel_rfl) ?_
  simp -dsimp [hm2.blk]
  refine callD.reads _ F6 hrd6 ?_
  simp -dsimp
  obtain ⟨Ag, cg, eg⟩ := gcv_val (n + 1) 1 s.stopping.1.length
  obtain ⟨ro, hsame, hlt3⟩ := gc_ro (e := 2) hl2 (ints_length s.stopping.1)
  refine callD.heavy _ _ _ (by omega) (gcu_lt _ _ _ _ _) (show Dm.Spec Try.prog 66 _ g2 (n + 1) fun r h' n' => r = .tuple #[gcv (n + 1) 1 s.stopping.1.length, .int .i64 s.stopping.2] ∧ h' = applyU g2 (gcu (n + 1) 2 (ints s.stopping.1) s.stopping.1.length false) ∧ n' = n + 1 + 1 from w66' _ _ _ _ _ g2 (n + 1) false) ?_
  generalize applyU g2 (gcu (n + 1) 2 (ints s.stopping.1) s.stopping.1.length false) = g3 at *
  have hm3 : MRepV g3 M { s with held := true } s.before s.lastStep false (.slice A s.ms.length c) pl dv := hm2.fz (hsame _ (by omega)) (fun L b' x _ => by rw [hsame L (hl2 L b' x)]; exact x)
  have hB3 := (hsame n (by omega)).trans hB2
  have hs3 : ∀ L, L < n → L ≠ M → g3 L = h L := fun L hL hne => by rw [hsame L (by omega)]; exact hs2' L hL hne
  rw [eg] at ro
  rw [eg, hs2]
  simp -dsimp
  refine Sat.sq ?_
  refine Sat.reg (by kernel_rfl) ?_
  simp -dsimp [hm3.blk, nM2]
  have hm4 : MRepV (upd g3 M ⟨mCells (.slice A s.ms.length c) pl dv { s with held := true } s.before s.lastStep false, 52, 0, true⟩) M { s with held := true } s.before s.lastStep false (.slice A s.ms.length c) pl dv := hm3.put rfl hm3.plan hm3.done hm3.dnil
  have hB4 : upd g3 M ⟨mCells (.slice A s.ms.length c) pl dv { s with held := true } s.before s.lastStep false, 52, 0, true⟩ n = some ⟨s.cur.cells, 38, 0, true⟩ := by rw [upd_at, if_neg (by omega)]; exact hB3
  have hro4 : RO (upd g3 M ⟨mCells (.slice A s.ms.length c) pl dv { s with held := true } s.before s.lastStep false, 52, 0, true⟩) 1 (.slice Ag s.stopping.1.length cg) (ints s.stopping.1) s.stopping.1.length := ro.fz (Fz.upd fun b' hb => by rw [hm3.blk] at hb; cases hb; rfl)
  have hs4 : ∀ L, L < n → L ≠ M → upd g3 M ⟨mCells (.slice A s.ms.length c) pl dv { s with held := true } s.before s.lastStep false, 52, 0, true⟩ L = h L := fun L hL hne => by rw [upd_at, if_neg hne]; exact hs3 L hL hne
  obtain ⟨g4, hh4⟩ : ∃ g4, upd g3 M ⟨mCells (.slice A s.ms.length c) pl dv { s with held := true } s.before s.lastStep false, 52, 0, true⟩ = g4 := ⟨_, rfl⟩
  rw [hh4] at hm4 hB4 hro4 hs4
  dsimp only [mCells] at hh4
  dsimp only [Mot.cells] at hB4
  rw [hh4]
  have W : IntKind.i64.wrap (s.cur.len - s.part) = s.cur.len - s.part := wrap_in (by omega) (by omega)
  refine Sat.sq ?_
  refine Sat.drw u69_7 mixed (by kernel_rfl) (by kernel_rfl) (by kernel_rfl) (by kernel_rfl) ?_
  simp -dsimp [hB4]
  refine callD.pure (w17 _ hn) ?_
  simp -dsimp [hm4.blk, W]
  refine Sat.ite rfl (fun hc => ?_) (fun hc => ?_)
  rotate_left
  · have hc : ¬ s.needed.1 ≤ s.cur.len - s.part := by simpa using hc
    refine Sat.skip ?_
    refine RetQ.normal rfl (fin (by omega) hs4 hm4 (by simp [CS.brakes, hc]))
  have hc : s.needed.1 ≤ s.cur.len - s.part := by simpa using hc
  have hbk : s.brakes = true := by simp [CS.brakes, hq1, hq2, hn2, hc, hs2]
  have hbr2 := hr.braked hbk
  have hhold : s.hold = if s.stopping.1.length = 0 then s.braked.stop else s.braked := by simp only [CS.hold, hbr, hbk, if_true]; simp
  refine Sat.sq ?_
  refine Sat.reg (by kernel_rfl) ?_
  simp -dsimp [hm4.blk, nM2]
  have hm5 : MRepV (upd g4 M ⟨mCells (.slice A s.ms.length c) (.slice Ag s.stopping.1.length cg) dv s.braked s.before s.lastStep true, 52, 0, true⟩) M s.braked s.before s.lastStep true (.slice A s.ms.length c) (.slice Ag s.stopping.1.length cg) dv := hm4.put (s' := s.braked) rfl hro4 hm4.done hm4.dnil
  have hB5 : upd g4 M ⟨mCells (.slice A s.ms.length c) (.slice Ag s.stopping.1.length cg) dv s.braked s.before s.lastStep true, 52, 0, true⟩ n = some ⟨s.cur.cells, 38, 0, true⟩ := by rw [upd_at, if_neg (by omega)]; exact hB4
  have hs5 : ∀ L, L < n → L ≠ M → upd g4 M ⟨mCells (.slice A s.ms.length c) (.slice Ag s.stopping.1.length cg) dv s.braked s.before s.lastStep true, 52, 0, true⟩ L = h L := fun L hL hne => by rw [upd_at, if_neg hne]; exact hs4 L hL hne
  obtain ⟨g5, hh5⟩ : ∃ g5, upd g4 M ⟨mCells (.slice A s.ms.length c) (.slice Ag s.stopping.1.length cg) dv s.braked s.before s.lastStep true, 52, 0, true⟩ = g5 := ⟨_, rfl⟩
  rw [hh5] at hm5 hB5 hs5
  dsimp only [mCells, CS.braked] at hh5
  dsimp only [Mot.cells] at hB5
  rw [hh5]
  refine Sat.sq ?_
  refine Sat.reg (by kernel_rfl) ?_
  simp -dsimp
  refine (w52 hm5 hbr2.cov _).useH ?_
  have hres : s.braked.resting = decide (s.stopping.1.length = 0) := by
    show decide ((0 : Int) = s.stopping.1.length) = _
    by_cases h0 : s.stopping.1.length = 0
    · simp [h0]
    · have : ¬ (0 : Int) = s.stopping.1.length := by omega
      simp only [this, h0]
  by_cases h0 : s.stopping.1.length = 0
  · have hrs : s.braked.resting = true := by rw [hres]; simpa using h0
    rw [hrs]
    rw [if_pos h0] at hhold
    simp -dsimp
    refine Sat.cond (t := true) (by rfl) ?_
    refine Sat.reg (by kernel_rfl) ?_
    simp -dsimp [hB5]
    refine (w62 hm5 hbr2.ok hpc s.cur _).onH ?_
    rintro r h7 n7 ⟨rfl, hp7⟩
    obtain ⟨hn7, hs7, hf7, pl7, dv7, hm7⟩ := hp7.next (by omega) hs5 (ffz _ hs5)
    simp -dsimp
    refine RetQ.normal rfl ⟨rfl, s.before, s.lastStep, true, ⟨hn7, hs7, hf7, pl7, dv7, ?_⟩, by rw [hhold]; exact stop_tied _ _ _⟩
    have e := go_rest (p := s.braked) hbr2.ok hi (by show ¬ s.part = s.cur.len; omega)
    rw [hhold, e]
    exact hm7.congr rfl ⟨rfl, rfl, rfl⟩ rfl rfl rfl rfl rfl rfl (by show [] = List.drop 0 s.stopping.1; rw [List.drop_zero]; exact (List.eq_nil_of_length_eq_zero h0).symm)
  · have hrs : s.braked.resting = false := by rw [hres]; simpa using h0
    rw [hrs]
    rw [if_neg h0] at hhold
    simp -dsimp
    refine Sat.cond (t := false) (by rfl) ?_
    refine Sat.skip ?_
    refine RetQ.normal rfl ⟨rfl, s.before, s.lastStep, true, ⟨by omega, hs5, ffz _ hs5, _, _, by rw [hhold]; exact hm5⟩, by rw [hhold]; exact fun _ => ⟨rfl, fun h => by cases h⟩⟩

end Go.Proofs.Ytoinimkmoojcoaa
/- Walks, part N6. -/
set_option maxRecDepth 100000
set_option maxHeartbeats 4000000
set_option linter.unusedSimpArgs false
set_option linter.unusedVariables false
namespace Go.Proofs.Ytoinimkmoojcoaa
open Go Go.Dm
attribute [local simp ↓] RunS_nil RunS_op RunS_guard RunT_nil RunT_op RunT_guard opS_call opD_call opS_move opD_move opS_assign opD_assign opS_pick opD_pick opS_nilCheck opD_nilCheck opS_fieldAddr opD_fieldAddr opS_indexAddr opD_indexAddr opS_load opD_load opS_store opD_store opS_alloc opD_alloc opS_box opD_box opS_build opD_build opS_buildSlice opD_buildSlice opS_field opD_field opS_extract opD_extract opS_makeFunc opD_makeFunc opS_slice opD_slice opS_binOp opD_binOp opS_unOp opD_unOp opS_convert opD_convert opS_index opD_index opS_len opD_len opS_append opD_append opS_max opD_max opS_min opD_min obind_some obind_none thenH_normal thenH_ret thenH_exit blockA_normal blockA_ret blockA_exit thenA_normal thenA_ret thenA_exit dstAt_mk dstL_zero dstL_succ
attribute [local simp] undef wantG_bool wantG_undef findO_some calleeS find putA ev closed3 closed2 closed1 closed0 pickA binF unF convF mxF eqNilA fastBin fastUn fastConv intBin argEnv resultsA resultsL resultA notTuple allocs eff
  loadO storeO allocO boxO sliceO indexO indexAddrA loadA storeA newA isAggT nilCheckA lenA evAll evParts aadd gen upd_at upd_upd Value.cells mxV Pairs apart readsS labOf putAt fieldA partA extractA makeFuncA evOpt boundOf sliceA Nat.add_assoc
attribute [local simp] bu107_z bu107_0_1 bu25_0_1_2 bu36_z bu36_0_1 bu36_0_1_2 bu36_0 bu38_z bu38_0_1_2_3_4 bu38_0_1_3 bu38_0_1_3_4 bu38_1_2 bu38_1_2_3 bu52_0_1_10 bu81_0_1 bs22_0_z bs22_1_0 bs22_2_0_1 bs39_1_0 bs39_7_0_1_2_3_4_5_6 bs95_4_0_1_2_3
attribute [local simp ↓] eql107 neq107 eql36 neq36 eql38 neq38 eql25 neq25
attribute [local simp] fa25_0 fa25_1 fa25_2 fa36_0 fa36_1 fa36_2 fa38_0 fa38_1 fa38_2 fa38_3 fa38_4 fa107_0 fa107_1 fa81_0 fa81_1 fa81_2 fa81_3 fa81_4 fa81_5 fa81_6 fa81_7 fa81_8 fa81_9 fa81_10 fa52_0 fa52_1 fa52_2 fa52_3 fa52_4 fa52_5 fa52_6 fa52_7 fa52_8 fa52_9 fa52_10 fa52_11 fa52_12
attribute [local simp] c22 c39 c29 z22 z39 c25 c38 c2 c3 c4 c36 c107 c30 z25 z38 z2 z3 z4 z36 z107 b38 b25 b107 h38 h25 h36 h107 g38 g25 g36 g107 Try.underlying25 Try.underlying38 Try.underlying2 Try.underlying3 Try.underlying4 Try.underlying36 Try.underlying22 Try.underlying39 Try.underlying29 Try.underlying81 Try.underlying107 Try.underlying30
attribute [local simp] mx mn
attribute [local simp] c52 z52 b52 h52 g52 Try.underlying52 Try.underlying44
/-- The model's stop, with the memory that it leaves. -/
theorem w62d {h : Heap} {M : Nat} {s : CS} {b l : Int} {br : Bool} {lv pl dv : Value} (hm : MRepV h M s b l br lv pl dv) (ho : s.Ok) (hpc : s.pieces.length ≤ 100000000000) (m : Mot) (n : Nat) (hlt : ∀ L b, h L = some b → L < n) :
    ∃ us n'', n ≤ n'' ∧ (∀ u ∈ us, u.1 < n'') ∧ Dm.Spec Try.prog 62 [pC M, m.v] h n (fun r h' n1 => r = .tuple #[] ∧ h' = applyU h us ∧ n1 = n'') ∧ MPost h n M (s.cut m) b l br lv (applyU h us) n'' := by
  have lM := hlt M _ hm.blk
  have nM := ne2 lM
  have hf1 : Fz h (upd h n ⟨m.cells, 38, 0, true⟩) := fun L b' x _ => by have := hlt L b' x; rw [upd_at, if_neg (by omega)]; exact x
  have hm1 : MRepV (upd h n ⟨m.cells, 38, 0, true⟩) M s b l br lv pl dv := hm.fz (by rw [upd_at, if_neg (by omega)]) hf1
  have hB1 : upd h n ⟨m.cells, 38, 0, true⟩ n = some ⟨m.cells, 38, 0, true⟩ := by rw [upd_at, if_pos rfl]
  have hl1 := lt_fresh (b := ⟨m.cells, 38, 0, true⟩) hlt
  have hk1 : ∀ L, L < n → upd h n ⟨m.cells, 38, 0, true⟩ L = h L := fun L hL => by rw [upd_at, if_neg (by omega)]
  obtain ⟨us, p, v, p1, p2, u1, u2, _, hspec, hgo⟩ := w78 hm1 ho hpc m (n + 1)
  obtain ⟨hro, hs, hl2, hnil⟩ := hgo hl1
  have nMp := ne2 (show M < p by omega)
  obtain ⟨Av, cv, rfl⟩ := hro.len
  have hm2 : MRepV (applyU (upd h n ⟨m.cells, 38, 0, true⟩) us) M s b l br lv pl dv := hm1.fz (hs _ (by omega)) (fun L b' x _ => by rw [hs _ (hl1 L b' x)]; exact x)
  have happ : applyU h ((n, ⟨m.cells, 38, 0, true⟩) :: us ++ [(M, ⟨mCells lv pl (.slice Av (s.cutP m).length cv) (s.cut m) b l br, 52, 0, true⟩)]) = upd (applyU (upd h n ⟨m.cells, 38, 0, true⟩) us) M ⟨mCells lv pl (.slice Av (s.cutP m).length cv) (s.cut m) b l br, 52, 0, true⟩ := by
    simp [applyU, List.foldl_append]
  refine ⟨(n, ⟨m.cells, 38, 0, true⟩) :: us ++ [(M, ⟨mCells lv pl (.slice Av (s.cutP m).length cv) (s.cut m) b l br, 52, 0, true⟩)], p, by omega, ?_, ?_, ?_⟩
  · intro u hu
    simp only [List.cons_append, List.mem_cons, List.mem_append, List.not_mem_nil, or_false] at hu
    rcases hu with rfl | hu | rfl
    · show n < p; omega
    · exact u2 u hu
    · show M < p; omega
  · rw [happ]
    clear hk1 hf1
    refine Spec.body Try.func62 rfl (by kernel_rfl) Try.ntmps62 (by rw [Try.results62]) (Nat.le_of_ble_eq_true rfl) ?_
    refine Sat.sq ?_
    refine Sat.reg (by kernel_rfl) ?_
    simp -dsimp
    dsimp only [Mot.cells] at hm1 hB1 hl1 hspec hgo hro hs hl2 hm2 ⊢
    generalize upd h n _ = g1 at *
    refine Sat.reg (by kernel_rfl) ?_
    simp -dsimp [hB1]
    refine hspec.useH ?_
    simp -dsimp
    generalize applyU g1 us = g2 at *
    refine (w51 hm2 ho _).useH ?_
    simp -dsimp [hm2.blk, nMp]
    exact RetQ.normal (r := .tuple #[]) (by rfl) ⟨rfl, rfl, rfl⟩
  · rw [happ]
    refine ⟨by omega, fun L hL hne => ?_, ?_, pl, .slice Av (s.cutP m).length cv, ?_⟩
    · rw [upd_at, if_neg hne, hs _ (by omega)]; exact hk1 L hL
    · intro L b' x y
      rw [upd_at, if_neg (by intro e; subst e; rw [hm.blk] at x; cases x; cases y), hs _ (by have := hlt L b' x; omega)]
      exact hf1 L b' x y
    · exact hm2.put (s' := s.cut m) rfl hm2.plan hro hnil
theorem push_cut {p : CS} (hi : p.index < p.ms.length) : p.push.toPos = CS.cut p p.cur := by
  have hpc : p.piece = (p.seg, decide (¬ p.last = p.pos)) := by
    unfold CS.piece; rw [if_neg (by omega)]
  have hseg : p.seg = CS.segOf p p.cur := rfl
  have hpush : p.push = { p with pieces := p.cutP p.cur } := by
    unfold CS.push CS.cutP
    rw [hpc]
    by_cases hq : p.last = p.pos
    · simp [hq]; rw [← hq]
    · have hq' : ¬ p.pos = p.last := fun e => hq e.symm
      simp [hq, hq', hseg]
  have hpos2 : p.push.pos = p.pos := by rw [hpush]; rfl
  unfold CS.toPos
  rw [hpos2, hpush]; rfl
/-- At rest nothing is left of a piece. -/
def CS.Still (s : CS) : Prop := s.resting = true → s.last = s.pos
def brkPost (s : CS) (lv : Value) (M : Nat) (h : Heap) (n : Nat) (r : Value) (h' : Heap) (n' : Nat) : Prop :=
  r = .tuple #[] ∧ ∃ b' l' br', MPost h n M s.brk b' l' br' lv h' n'
def at70 (h : Heap) (n M : Nat) (s' : CS) (b l : Int) (br : Bool) (lv : Value) (T : TEnv) (h' : Heap) (n' : Nat) : Prop := find T 0 = some (pC M) ∧ MPost h n M s' b l br lv h' n'
abbrev u70_2 : List (Nat × Nat) := []
theorem w70 {h : Heap} {M : Nat} {s : CS} {b l : Int} {br : Bool} {lv pl dv : Value} (hm : MRepV h M s b l br lv pl dv) (hr : s.Run) (hst : s.Still) (hpc : s.pieces.length ≤ 100000000000) (n : Nat) :
    Dm.Spec Try.prog 70 [pC M] h n (brkPost s lv M h n) := by
  refine Spec.body Try.func70 rfl (by kernel_rfl) Try.ntmps70 (by rw [Try.results70]) (Nat.le_of_ble_eq_true rfl) ?_
  refine Sat.lt fun hlt => ?_
  have lM := hlt M _ hm.blk
  have nM := ne2 lM
  obtain ⟨A, c, rfl⟩ := hm.mot.len
  have hidx := hr.ok.idx
  refine Sat.sq ?_
  refine Sat.sq ?_
  refine Sat.reg (by kernel_rfl) ?_
  simp -dsimp [hm.blk]
  cases hbr : s.broken
  rotate_left
  · have hh : s.brk = s := by simp [CS.brk, hbr]
    refine Sat.cond (t := true) (by rfl) ?_
    refine Sat.ret ?_
    try simp -dsimp only [thenH_ret, blockA_ret, thenA_ret]
    exact RetQ.ret (r := .tuple #[]) (by rfl) ⟨rfl, b, l, br, Nat.le_refl _, fun _ _ _ => rfl, Fz.refl h, pl, dv, by rw [hh]; exact hm⟩
  refine Sat.cond (t := false) (by rfl) ?_
  refine Sat.skip ?_
  simp -dsimp
  have hbrk : s.brk = { s.push.toPos with plan := [], cov := 0, braking := false, held := false, broken := true } := by simp [CS.brk, hbr]
  refine Sat.join (at70 h n M s.push.toPos b l br (.slice A s.ms.length c)) ?_ ?_
  · refine Sat.sq ?_
    refine Sat.reg (by kernel_rfl) ?_
    simp -dsimp
    refine (w52 hm hr.cov _).useH ?_
    cases hq : s.resting
    · have hcv : s.cov < s.plan.length := by
        have := hr.cov.2
        simp only [CS.resting, decide_eq_false_iff_not] at hq
        omega
      have hi := (hr.sum hcv).1
      obtain ⟨B, o, sp, bb, hB, hbo, am⟩ := hm.mot.mot hidx.1 hi
      change AtMot _ s.index s.cur B o sp bb at am
      simp -dsimp
      refine Sat.cond (t := true) (by rfl) ?_
      refine Sat.drw u70_2 mixed (by kernel_rfl) (by kernel_rfl) (by kernel_rfl) (by kernel_rfl) ?_
      simp -dsimp [hm.blk, -indexAddrA, am.idx, ↓am.l38, hB]
      obtain ⟨us, p, hp, hu, hspec, hpost⟩ := w62d hm hr.ok hpc s.cur n hlt
      refine callD.heavy _ us p hp hu hspec ?_
      generalize applyU h us = h2 at *
      simp -dsimp
      rw [push_cut hi]
      exact ⟨rfl, hpost⟩
    · simp -dsimp
      refine Sat.cond (t := false) (by rfl) ?_
      refine Sat.skip ?_
      simp -dsimp
      have hl := hst hq
      have e : s.push.toPos = s := by
        have hpush : s.push = s := by
          have hp2 : s.piece.2 = false := by
            unfold CS.piece; split
            · rfl
            · simp [hl]
          simp [CS.push, hp2]
        rw [hpush]
        unfold CS.toPos; rw [← hl]
      rw [e]
      exact ⟨rfl, Nat.le_refl _, fun _ _ _ => rfl, Fz.refl h, pl, dv, hm⟩
  rintro T h2 n2 ⟨t0, hn2, hs2, hf2, pl2, dv2, hm2⟩
  obtain ⟨A', c', e'⟩ := hm2.mot.len
  have nM2 := ne2 (show M < n2 by omega)
  refine Sat.reg (by kernel_rfl) ?_
  simp -dsimp [t0, hm2.blk, nM2]
  have hm3 := hm2.put (s' := s.brk) (pl' := .slice none 0 0) (dv' := dv2) (b' := b) (l' := l) (br' := br) (by rw [hbrk]) (by rw [hbrk]; exact RO.nil) (by rw [hbrk]; exact hm2.done) (by rw [hbrk]; exact hm2.dnil)
  dsimp only [mCells] at hm3
  rw [hbrk] at hm3
  refine RetQ.normal rfl ⟨rfl, b, l, br, by omega, fun L hL hne => ?_, fun L b' x y => ?_, .slice none 0 0, dv2, by rw [hbrk]; exact hm3⟩
  · rw [upd_at, if_neg hne]; exact hs2 L hL hne
  · have hne : L ≠ M := by intro e; subst e; rw [hm.blk] at x; cases x; cases y
    rw [upd_at, if_neg hne]; exact hf2 L b' x y
def piecesPost (s : CS) (h : Heap) (n : Nat) (r : Value) (h' : Heap) (n' : Nat) : Prop := n ≤ n' ∧ (∀ L, L < n → h' L = h L) ∧ RO h' 9 r (motCells s.done) s.done.length
abbrev u71_3 : List (Nat × Nat) := []
theorem w71 {h : Heap} {M : Nat} {s : CS} {b l : Int} {br : Bool} {lv pl dv : Value} (hm : MRepV h M s b l br lv pl dv) (hr : s.Run) (hpc : s.pieces.length ≤ 100000000000) (n : Nat) :
    Dm.Spec Try.prog 71 [pC M] h n (piecesPost s h n) := by
  refine Spec.body Try.func71 rfl (by kernel_rfl) Try.ntmps71 (by rw [Try.results71]) (Nat.le_of_ble_eq_true rfl) ?_
  refine Sat.lt fun hlt => ?_
  have lM := hlt M _ hm.blk
  have nM := ne2 lM
  obtain ⟨A, c, rfl⟩ := hm.mot.len
  obtain ⟨Ad, cd, rfl⟩ := hm.done.len
  have hidx := hr.ok.idx
  refine Sat.sq ?_
  refine Sat.reg (by kernel_rfl) ?_
  simp -dsimp
  refine Sat.sq ?_
  refine Sat.sq ?_
  refine Sat.reg (by kernel_rfl) ?_
  simp -dsimp
  refine (w52 hm hr.cov _).useH ?_
  cases hq : s.resting
  · have hcv : s.cov < s.plan.length := by
      have := hr.cov.2
      simp only [CS.resting, decide_eq_false_iff_not] at hq
      omega
    have hi := (hr.sum hcv).1
    obtain ⟨B, o, sp, bb, hB, hbo, am⟩ := hm.mot.mot hidx.1 hi
    change AtMot _ s.index s.cur B o sp bb at am
    have e : s.done = s.cutP s.cur := by
      have hpc : s.piece = (s.seg, decide (¬ s.last = s.pos)) := by
        unfold CS.piece; rw [if_neg (by omega)]
      have hseg : s.seg = CS.segOf s s.cur := rfl
      unfold CS.done CS.cutP
      rw [hpc, hq]
      by_cases hq : s.last = s.pos
      · simp [hq]
      · have hq' : ¬ s.pos = s.last := fun e => hq e.symm
        simp [hq, hq', hseg]
    simp -dsimp
    refine Sat.cond (t := false) (by rfl) ?_
    refine Sat.skip ?_
    simp -dsimp
    refine Sat.sq ?_
    refine Sat.drw u71_3 mixed (by kernel_rfl) (by kernel_rfl) (by kernel_rfl) (by kernel_rfl) ?_
    simp -dsimp [hm.blk, -indexAddrA, am.idx, ↓am.l38, hB]
    obtain ⟨us, p, v, p1, p2, u1, u2, _, hspec, hgo⟩ := w78 hm hr.ok hpc s.cur n
    obtain ⟨hro, hs, hl2, hnil⟩ := hgo hlt
    obtain ⟨Av, cv, rfl⟩ := hro.len
    refine callD.heavy _ us p (by omega) u2 hspec ?_
    generalize applyU h us = h2 at *
    rw [← e] at hro
    rw [← e]
    generalize hk : s.done.length = k at *
    simp -dsimp
    refine Sat.ret ?_
    try simp -dsimp only [thenH_ret, blockA_ret, thenA_ret]
    exact RetQ.ret (r := .slice Av k cv) (by rfl) ⟨by omega, hs, by rw [hk]; exact hro⟩
  · simp -dsimp
    refine Sat.cond (t := true) (by rfl) ?_
    refine Sat.sq ?_
    refine Sat.reg (by kernel_rfl) ?_
    simp -dsimp [hm.blk]
    refine Sat.ret ?_
    try simp -dsimp only [thenH_ret, blockA_ret, thenA_ret]
    refine RetQ.ret (r := .slice Ad s.pieces.length cd) (by rfl) ⟨Nat.le_refl _, fun _ _ => rfl, ?_⟩
    have e : s.done = s.pieces := by simp [CS.done, hq]
    rw [e]; exact hm.done

end Go.Proofs.Ytoinimkmoojcoaa
/- Walks, part N7. -/
set_option maxRecDepth 100000
set_option maxHeartbeats 4000000
set_option linter.unusedSimpArgs false
set_option linter.unusedVariables false
namespace Go.Proofs.Ytoinimkmoojcoaa
open Go Go.Dm
attribute [local simp ↓] RunS_nil RunS_op RunS_guard RunT_nil RunT_op RunT_guard opS_call opD_call opS_move opD_move opS_assign opD_assign opS_pick opD_pick opS_nilCheck opD_nilCheck opS_fieldAddr opD_fieldAddr opS_indexAddr opD_indexAddr opS_load opD_load opS_store opD_store opS_alloc opD_alloc opS_box opD_box opS_build opD_build opS_buildSlice opD_buildSlice opS_field opD_field opS_extract opD_extract opS_makeFunc opD_makeFunc opS_slice opD_slice opS_binOp opD_binOp opS_unOp opD_unOp opS_convert opD_convert opS_index opD_index opS_len opD_len opS_append opD_append opS_max opD_max opS_min opD_min obind_some obind_none thenH_normal thenH_ret thenH_exit blockA_normal blockA_ret blockA_exit thenA_normal thenA_ret thenA_exit dstAt_mk dstL_zero dstL_succ
attribute [local simp] undef wantG_bool wantG_undef findO_some calleeS find putA ev closed3 closed2 closed1 closed0 pickA binF unF convF mxF eqNilA fastBin fastUn fastConv intBin argEnv resultsA resultsL resultA notTuple allocs eff
  loadO storeO allocO boxO sliceO indexO indexAddrA loadA storeA newA isAggT nilCheckA lenA evAll evParts aadd gen upd_at upd_upd Value.cells mxV Pairs apart readsS labOf putAt fieldA partA extractA makeFuncA evOpt boundOf sliceA Nat.add_assoc
attribute [local simp] bu107_z bu107_0_1 bu25_0_1_2 bu36_z bu36_0_1 bu36_0_1_2 bu36_0 bu38_z bu38_0_1_2_3_4 bu38_0_1_3 bu38_0_1_3_4 bu38_1_2 bu38_1_2_3 bu52_0_1_10 bu81_0_1 bs22_0_z bs22_1_0 bs22_2_0_1 bs39_1_0 bs39_7_0_1_2_3_4_5_6 bs95_4_0_1_2_3
attribute [local simp ↓] eql107 neq107 eql36 neq36 eql38 neq38 eql25 neq25
attribute [local simp] fa25_0 fa25_1 fa25_2 fa36_0 fa36_1 fa36_2 fa38_0 fa38_1 fa38_2 fa38_3 fa38_4 fa107_0 fa107_1 fa81_0 fa81_1 fa81_2 fa81_3 fa81_4 fa81_5 fa81_6 fa81_7 fa81_8 fa81_9 fa81_10 fa52_0 fa52_1 fa52_2 fa52_3 fa52_4 fa52_5 fa52_6 fa52_7 fa52_8 fa52_9 fa52_10 fa52_11 fa52_12
attribute [local simp] c22 c39 c29 z22 z39 c25 c38 c2 c3 c4 c36 c107 c30 z25 z38 z2 z3 z4 z36 z107 b38 b25 b107 h38 h25 h36 h107 g38 g25 g36 g107 Try.underlying25 Try.underlying38 Try.underlying2 Try.underlying3 Try.underlying4 Try.underlying36 Try.underlying22 Try.underlying39 Try.underlying29 Try.underlying81 Try.underlying107 Try.underlying30
attribute [local simp] mx mn
attribute [local simp] c52 z52 b52 h52 g52 Try.underlying52 Try.underlying44 bu52_0_1_10
def startPost (S A J : Int) (ms : List Mot) (lv : Value) (h : Heap) (n : Nat) (r : Value) (h' : Heap) (n' : Nat) : Prop :=
  n ≤ n' ∧ (∀ L, L < n → h' L = h L) ∧ ∃ M, n ≤ M ∧ M < n' ∧ r = pC M ∧ ∃ pl dv, MRepV h' M (CS.new S A J ms) 0 0 false lv pl dv
theorem w19 {h : Heap} {lv : Value} {ms : List Mot} {S A J : Int} (hr : RO h 9 lv (motCells ms) ms.length) (few : ms.length ≤ 20000) (near : ∀ m ∈ ms, m.near) (n : Nat) :
    Dm.Spec Try.prog 19 [lv, .agg #[.int .i64 S, .int .i64 A, .int .i64 J]] h n (startPost S A J ms lv h n) := by
  refine Spec.body Try.func19 rfl (by kernel_rfl) Try.ntmps19 (by rw [Try.results19]) (Nat.le_of_ble_eq_true rfl) ?_
  refine Sat.lt fun hlt => ?_
  obtain ⟨Al, cl, rfl⟩ := hr.len
  refine Sat.sq ?_
  refine Sat.reg (by kernel_rfl) ?_
  simp -dsimp
  refine Sat.sq ?_
  refine Sat.reg (by kernel_rfl) ?_
  simp -dsimp
  have hm1 : MRepV (upd (upd h n ⟨[.int .i64 S, .int .i64 A, .int .i64 J], 25, 0, true⟩) (n + 1) ⟨mCells (.slice Al ms.length cl) (.slice none 0 0) (.slice none 0 0) ⟨ms, S, A, J, 0, 0, [], 0, false, false, false, [], ⟨0, 0, 0⟩⟩ 0 0 false, 52, 0, true⟩) (n + 1) ⟨ms, S, A, J, 0, 0, [], 0, false, false, false, [], ⟨0, 0, 0⟩⟩ 0 0 false (.slice Al ms.length cl) (.slice none 0 0) (.slice none 0 0) :=
    ⟨by rw [upd_at, if_pos rfl], hr.fz (fun L b x _ => by have := hlt L b x; rw [upd_at, if_neg (by omega), upd_at, if_neg (by omega)]; exact x), RO.nil, RO.nil, fun _ => rfl⟩
  have hk1 : ∀ L, L < n → upd (upd h n ⟨[.int .i64 S, .int .i64 A, .int .i64 J], 25, 0, true⟩) (n + 1) ⟨mCells (.slice Al ms.length cl) (.slice none 0 0) (.slice none 0 0) ⟨ms, S, A, J, 0, 0, [], 0, false, false, false, [], ⟨0, 0, 0⟩⟩ 0 0 false, 52, 0, true⟩ L = h L := fun L hL => by rw [upd_at, if_neg (by omega), upd_at, if_neg (by omega)]
  dsimp only [mCells] at hm1 hk1
  generalize upd (upd h n _) (n + 1) _ = g1 at *
  refine Sat.join (fun T h' n' => find T 5 = some (pC (n + 1)) ∧ n' = n + 2 ∧ (∀ L, L < n → h' L = h L) ∧ MRepV h' (n + 1) ⟨ms, S, A, J, 0, 0, [], 0, false, false, false, [], firstFr ms⟩ 0 0 false (.slice Al ms.length cl) (.slice none 0 0) (.slice none 0 0)) ?_ ?_
  · refine Sat.sq ?_
    refine Sat.reg (by kernel_rfl) ?_
    simp -dsimp
    refine Sat.ite rfl (fun hc => ?_) (fun hc => ?_)
    · have hc : 0 < ms.length := by
        have : (0 : Int) < ms.length := by simpa using hc
        omega
      obtain ⟨B, o, sp, bb, hB, hbo, am⟩ := hr.mot (i := 0) (by omega) (by omega)
      have hB1 := (hk1 B (hlt B _ hB)).trans hB
      rw [show ((0 : Int).toNat) = 0 from rfl] at am
      generalize hm0 : ms[0]! = m0 at *
      refine Sat.reg (by kernel_rfl) ?_
      simp -dsimp [hm1.blk, -indexAddrA, am.idx, ↓am.l36, hB1]
      refine ⟨fun L hL => ?_, ?_⟩
      · rw [if_neg (by omega)]; exact hk1 L hL
      · have := hm1.put (s' := ⟨ms, S, A, J, 0, 0, [], 0, false, false, false, [], firstFr ms⟩) (b' := 0) (l' := 0) (br' := false) rfl hm1.plan hm1.done hm1.dnil
        dsimp only [mCells] at this
        rw [show firstFr ms = ⟨m0.fx, m0.fy, m0.fz⟩ by unfold firstFr; rw [if_pos hc, hm0]; rfl] at this ⊢
        exact this
    · have hc : ¬ 0 < ms.length := by
        have : ¬ (0 : Int) < ms.length := by simpa using hc
        omega
      refine Sat.skip ?_
      simp -dsimp
      refine ⟨hk1, ?_⟩
      rw [show firstFr ms = ⟨0, 0, 0⟩ by unfold firstFr; rw [if_neg hc]]
      exact hm1
  rintro T h2 n2 ⟨t5, rfl, hk2, hm2⟩
  refine Sat.sq ?_
  refine Sat.reg (by kernel_rfl) ?_
  simp -dsimp [t5]
  refine (w53 hm2 near few ⟨Int.le_refl 0, by show (0 : Int) ≤ ms.length; omega⟩ _).useH ?_
  have hm3 := hm2.put (s' := CS.new S A J ms) (b' := 0) (l' := 0) (br' := false) rfl hm2.plan hm2.done hm2.dnil
  have hk3 : ∀ L, L < n → upd h2 (n + 1) ⟨mCells (.slice Al ms.length cl) (.slice none 0 0) (.slice none 0 0) (CS.new S A J ms) 0 0 false, 52, 0, true⟩ L = h L := fun L hL => by rw [upd_at, if_neg (by omega)]; exact hk2 L hL
  rw [show CS.skip ⟨ms, S, A, J, 0, 0, [], 0, false, false, false, [], firstFr ms⟩ = CS.new S A J ms from rfl]
  generalize upd h2 (n + 1) _ = g3 at *
  simp -dsimp
  refine Sat.sq ?_
  refine Sat.reg (by kernel_rfl) ?_
  simp -dsimp [t5]
  refine Sat.ret ?_
  try simp -dsimp only [thenH_ret, blockA_ret, thenA_ret]
  exact RetQ.ret (r := pC (n + 1)) (by rfl) ⟨by omega, hk3, n + 1, by omega, by omega, rfl, _, _, hm3⟩
theorem eqBool (a b : Bool) : eqV Try.prog 1 4 (.bool a) (.bool b) = some (a == b) := by cases a <;> cases b <;> rfl
attribute [local simp] eqBool
abbrev u18_2 : List (Nat × Nat) := [(13, 17)]
theorem w18 {h : Heap} {C Lp M : Nat} {s : CS} {mv pl pv : Value} {b l : Int} {br : Bool} {lv pl' dv : Value} (hc : CRepV h C Lp s mv pl pv) (hm : MRepV h M s b l br lv pl' dv) (ho : s.Ok) (hcov : 0 ≤ s.cov ∧ s.cov ≤ s.plan.length) (n : Nat) :
    Dm.Spec Try.prog 18 [pC C, pC M] h n fun r' h' n' => r' = .bool true ∧ h' = h ∧ n' = n := by
  refine pureAt Try.func18 rfl (by kernel_rfl) Try.ntmps18 (by rw [Try.results18]) (Nat.le_of_ble_eq_true rfl) ?_
  obtain ⟨F1, hF1, hr1⟩ := hc.reads (g := 31) fun h2 n2 hc => w31 hc ho n2
  obtain ⟨F2, hF2, hr2⟩ := hm.reads (g := 51) fun h2 n2 hm => w51 hm ho n2
  obtain ⟨F3, hF3, hr3⟩ := hc.reads (g := 24) fun h2 n2 hc => w24 hc n2
  obtain ⟨F4, hF4, hr4⟩ := hm.reads (g := 52) fun h2 n2 hm => w52 hm hcov n2
  refine Sat.sq ?_
  refine Sat.reg (by kernel_rfl) ?_
  simp -dsimp
  refine Sat.sq ?_
  refine Sat.reg (by kernel_rfl) ?_
  simp -dsimp
  refine (w30 hc _).useH ?_
  simp -dsimp
  refine Sat.sq ?_
  refine Sat.drw u18_2 mixed (by kernel_rfl) (by kernel_rfl) (by kernel_rfl) (by kernel_rfl) ?_
  simp -dsimp [hm.blk]
  refine callD.reads _ F1 hr1 ?_
  simp -dsimp
  refine callD.reads _ F2 hr2 ?_
  simp -dsimp
  refine callD.reads _ F3 hr3 ?_
  simp -dsimp [hm.blk]
  refine callD.reads _ F4 hr4 ?_
  simp -dsimp
  refine Sat.ret (PureQ.ret rfl keep_refl ?_)
  simp -dsimp

end Go.Proofs.Ytoinimkmoojcoaa
/- Walks, part N8. -/
set_option maxRecDepth 100000
set_option maxHeartbeats 4000000
set_option linter.unusedSimpArgs false
set_option linter.unusedVariables false
namespace Go.Proofs.Ytoinimkmoojcoaa
open Go Go.Dm
attribute [local simp ↓] RunS_nil RunS_op RunS_guard RunT_nil RunT_op RunT_guard opS_call opD_call opS_move opD_move opS_assign opD_assign opS_pick opD_pick opS_nilCheck opD_nilCheck opS_fieldAddr opD_fieldAddr opS_indexAddr opD_indexAddr opS_load opD_load opS_store opD_store opS_alloc opD_alloc opS_box opD_box opS_build opD_build opS_buildSlice opD_buildSlice opS_field opD_field opS_extract opD_extract opS_makeFunc opD_makeFunc opS_slice opD_slice opS_binOp opD_binOp opS_unOp opD_unOp opS_convert opD_convert opS_index opD_index opS_len opD_len opS_append opD_append opS_max opD_max opS_min opD_min obind_some obind_none thenH_normal thenH_ret thenH_exit blockA_normal blockA_ret blockA_exit thenA_normal thenA_ret thenA_exit dstAt_mk dstL_zero dstL_succ
attribute [local simp] undef wantG_bool wantG_undef findO_some calleeS find putA ev closed3 closed2 closed1 closed0 pickA binF unF convF mxF eqNilA fastBin fastUn fastConv intBin argEnv resultsA resultsL resultA notTuple allocs eff
  loadO storeO allocO boxO sliceO indexO indexAddrA loadA storeA newA isAggT nilCheckA lenA evAll evParts aadd gen upd_at upd_upd Value.cells mxV Pairs apart readsS labOf putAt fieldA partA extractA makeFuncA evOpt boundOf sliceA Nat.add_assoc
attribute [local simp] bu107_z bu107_0_1 bu25_0_1_2 bu36_z bu36_0_1 bu36_0_1_2 bu36_0 bu38_z bu38_0_1_2_3_4 bu38_0_1_3 bu38_0_1_3_4 bu38_1_2 bu38_1_2_3 bu52_0_1_10 bu81_0_1 bs22_0_z bs22_1_0 bs22_2_0_1 bs39_1_0 bs39_7_0_1_2_3_4_5_6 bs95_4_0_1_2_3
attribute [local simp ↓] eql107 neq107 eql36 neq36 eql38 neq38 eql25 neq25
attribute [local simp] fa25_0 fa25_1 fa25_2 fa36_0 fa36_1 fa36_2 fa38_0 fa38_1 fa38_2 fa38_3 fa38_4 fa107_0 fa107_1 fa81_0 fa81_1 fa81_2 fa81_3 fa81_4 fa81_5 fa81_6 fa81_7 fa81_8 fa81_9 fa81_10 fa52_0 fa52_1 fa52_2 fa52_3 fa52_4 fa52_5 fa52_6 fa52_7 fa52_8 fa52_9 fa52_10 fa52_11 fa52_12
attribute [local simp] c22 c39 c29 z22 z39 c25 c38 c2 c3 c4 c36 c107 c30 z25 z38 z2 z3 z4 z36 z107 b38 b25 b107 h38 h25 h36 h107 g38 g25 g36 g107 Try.underlying25 Try.underlying38 Try.underlying2 Try.underlying3 Try.underlying4 Try.underlying36 Try.underlying22 Try.underlying39 Try.underlying29 Try.underlying81 Try.underlying107 Try.underlying30
attribute [local simp] mx mn
/-- A controller and its model in memory. -/
def Two (h : Heap) (n C M : Nat) (s t : CS) (lv : Value) : Prop := C < n ∧ M < n ∧ M ≠ C ∧ ∃ Lp mv pl pv b l br pl' dv, CRepV h C Lp s mv pl pv ∧ Lp < n ∧ M ≠ Lp ∧ MRepV h M t b l br lv pl' dv ∧ Tied t b l br
theorem CRepV.keep {h h' : Heap} {C Lp : Nat} {s : CS} {mv pl pv : Value} (hc : CRepV h C Lp s mv pl pv) (h1 : h' C = h C) (h2 : h' Lp = h Lp) (hf : Fz h h') : CRepV h' C Lp s mv pl pv :=
  ⟨by rw [h1]; exact hc.blk, hc.mot.fz hf, hc.plan.fz hf, hc.pcs.frame fun _ => h2⟩
def twoPost (r0 : Value) (C M : Nat) (s t : CS) (lv : Value) (n : Nat) (h : Heap) (r : Value) (h' : Heap) (n' : Nat) : Prop := r = r0 ∧ Two h' n' C M s t lv ∧ n ≤ n' ∧ Fz h h'
theorem Two.cpost {h h' : Heap} {n n' C M Lp : Nat} {s' t : CS} {lv mv pl' dv : Value} {b l : Int} {br : Bool} (hC : C < n) (hM : M < n) (hne : M ≠ C) (hL : Lp < n) (hML : M ≠ Lp) (hm : MRepV h M t b l br lv pl' dv) (ht : Tied t b l br) (hp : CPost h n C Lp s' mv h' n') : Two h' n' C M s' t lv ∧ n ≤ n' ∧ Fz h h' := by
  obtain ⟨Lp', pl, pv, hc, hmv, hL'⟩ := hp
  have hn := hmv.le
  refine ⟨⟨by omega, by omega, hne, Lp', mv, pl, pv, b, l, br, pl', dv, hc, hL', ?_, hm.fz (hmv.frame M hM hne hML) hmv.fz, ht⟩, hn, hmv.fz⟩
  rcases hmv.lab with h | h <;> omega
theorem Two.ctick {h : Heap} {n C M : Nat} {s t : CS} {lv : Value} (ht : Two h n C M s t lv) (hr : s.Run) (hpc : s.pieces.length ≤ 1000000) : Dm.Spec Try.prog 22 [pC C] h n (twoPost (.bool s.moves) C M s.tick t lv n h) := by
  obtain ⟨h1, h2, h3, Lp, mv, pl, pv, b, l, br, pl', dv, hc, h4, h5, hm, h6⟩ := ht
  refine (w22 hc hr (by omega) n h4).mono ?_
  rintro r h' n' ⟨rfl, hp⟩
  exact ⟨rfl, Two.cpost h1 h2 h3 h4 h5 hm h6 hp⟩
theorem Two.chold {h : Heap} {n C M : Nat} {s t : CS} {lv : Value} (ht : Two h n C M s t lv) (hr : s.Run) (hg : s.Begun) (hpc : s.pieces.length ≤ 1000000) : Dm.Spec Try.prog 28 [pC C] h n (twoPost (.tuple #[]) C M s.hold t lv n h) := by
  obtain ⟨h1, h2, h3, Lp, mv, pl, pv, b, l, br, pl', dv, hc, h4, h5, hm, h6⟩ := ht
  refine (w28 hc hr hg (by omega) n h4).mono ?_
  rintro r h' n' ⟨rfl, hp⟩
  exact ⟨rfl, Two.cpost h1 h2 h3 h4 h5 hm h6 hp⟩
theorem Two.cresume {h : Heap} {n C M : Nat} {s t : CS} {lv : Value} (ht : Two h n C M s t lv) : Dm.Spec Try.prog 29 [pC C] h n (twoPost (.tuple #[]) C M { s with held := false } t lv n h) := by
  obtain ⟨h1, h2, h3, Lp, mv, pl, pv, b, l, br, pl', dv, hc, h4, h5, hm, h6⟩ := ht
  refine (w29 hc n h4).mono ?_
  rintro r h' n' ⟨rfl, hp⟩
  exact ⟨rfl, Two.cpost h1 h2 h3 h4 h5 hm h6 hp⟩
theorem Two.cbrk {h : Heap} {n C M : Nat} {s t : CS} {lv : Value} (ht : Two h n C M s t lv) (ho : s.Ok) (hpc : s.pieces.length ≤ 1000000) : Dm.Spec Try.prog 33 [pC C] h n (twoPost (.tuple #[]) C M s.brk t lv n h) := by
  obtain ⟨h1, h2, h3, Lp, mv, pl, pv, b, l, br, pl', dv, hc, h4, h5, hm, h6⟩ := ht
  refine (w33 hc ho (by omega) n h4).mono ?_
  rintro r h' n' ⟨rfl, hp⟩
  exact ⟨rfl, Two.cpost h1 h2 h3 h4 h5 hm h6 hp⟩
theorem Two.mpost {h h' : Heap} {n n' C M Lp : Nat} {s t' : CS} {lv mv pl pv : Value} {b' l' : Int} {br' : Bool} (hC : C < n) (hM : M < n) (hne : M ≠ C) (hc : CRepV h C Lp s mv pl pv) (hL : Lp < n) (hML : M ≠ Lp) (hp : MPost h n M t' b' l' br' lv h' n') (ht : Tied t' b' l' br') : Two h' n' C M s t' lv ∧ n ≤ n' ∧ Fz h h' := by
  obtain ⟨hn, hs, hf, pl', dv', hm⟩ := hp
  exact ⟨⟨by omega, by omega, hne, Lp, mv, pl, pv, b', l', br', pl', dv', hc.keep (hs C hC (Ne.symm hne)) (hs Lp hL (Ne.symm hML)) hf, by omega, hML, hm, ht⟩, hn, hf⟩
theorem Two.mtick {h : Heap} {n C M : Nat} {s t : CS} {lv : Value} (ht : Two h n C M s t lv) (hr : t.Run) (hg : t.Begun) (hpc : t.pieces.length ≤ 1000000) (hst : t.broken = false → t.index < t.ms.length → t.held = false → t.moves = true) : Dm.Spec Try.prog 23 [pC M] h n (twoPost (.bool t.moves) C M s t.tick lv n h) := by
  obtain ⟨h1, h2, h3, Lp, mv, pl, pv, b, l, br, pl', dv, hc, h4, h5, hm, h6⟩ := ht
  refine (w23 hm hr hg (by omega) h6 hst n).mono ?_
  rintro r h' n' ⟨rfl, b', l', br', hp, ht'⟩
  exact ⟨rfl, Two.mpost h1 h2 h3 hc h4 h5 hp ht'⟩
theorem Two.mhold {h : Heap} {n C M : Nat} {s t : CS} {lv : Value} (ht : Two h n C M s t lv) (hr : t.Run) (hsoft : t.Soft) (hpc : t.pieces.length ≤ 1000000) : Dm.Spec Try.prog 69 [pC M] h n (twoPost (.tuple #[]) C M s t.hold lv n h) := by
  obtain ⟨h1, h2, h3, Lp, mv, pl, pv, b, l, br, pl', dv, hc, h4, h5, hm, h6⟩ := ht
  refine (w69 hm hr hsoft (by omega) h6 n).mono ?_
  rintro r h' n' ⟨rfl, b', l', br', hp, ht'⟩
  exact ⟨rfl, Two.mpost h1 h2 h3 hc h4 h5 hp ht'⟩
theorem brk_tied {t : CS} {b l : Int} {br : Bool} (h : t.broken = false) : Tied t.brk b l br := fun hx => by
  simp [CS.brk, h, CS.resting] at hx
theorem Two.mbrk {h : Heap} {n C M : Nat} {s t : CS} {lv : Value} (ht : Two h n C M s t lv) (hr : t.Run) (hst : t.Still) (hpc : t.pieces.length ≤ 1000000) (hbr : t.broken = true → t.resting = true) : Dm.Spec Try.prog 70 [pC M] h n (twoPost (.tuple #[]) C M s t.brk lv n h) := by
  obtain ⟨h1, h2, h3, Lp, mv, pl, pv, b, l, br, pl', dv, hc, h4, h5, hm, h6⟩ := ht
  refine (w70 hm hr hst (by omega) n).mono ?_
  rintro r h' n' ⟨rfl, b', l', br', hp⟩
  refine ⟨rfl, Two.mpost h1 h2 h3 hc h4 h5 hp ?_⟩
  cases hb : t.broken
  · exact brk_tied hb
  · intro hx
    rw [show t.brk = t by simp [CS.brk, hb], hbr hb] at hx; cases hx
theorem Two.same {h : Heap} {n C M : Nat} {s : CS} {lv : Value} (ht : Two h n C M s s lv) (hr : s.Run) : Dm.Spec Try.prog 18 [pC C, pC M] h n fun r' h' n' => r' = .bool true ∧ h' = h ∧ n' = n := by
  obtain ⟨h1, h2, h3, Lp, mv, pl, pv, b, l, br, pl', dv, hc, h4, h5, hm, h6⟩ := ht
  exact w18 hc hm hr.ok hr.cov n
/-- The model beside a controller that is new. -/
theorem CIn.two {h h' : Heap} {n n' C M : Nat} {s : CS} {lv pl dv : Value} (hc : CIn h n C s) (hlt : ∀ L b, h L = some b → L < n) (hs : ∀ L, L < n → h' L = h L) (h1 : n ≤ M) (h2 : M < n') (hm : MRepV h' M s 0 0 false lv pl dv) (ht : Tied s 0 0 false) : Two h' n' C M s s lv := by
  obtain ⟨g1, Lp, mv, pl', pv, hc, g2⟩ := hc
  exact ⟨by omega, h2, by omega, Lp, mv, pl', pv, 0, 0, false, pl, dv, hc.keep (hs C g1) (hs Lp g2) (fun L b x _ => by rw [hs L (hlt L b x)]; exact x), by omega, by omega, hm, ht⟩

end Go.Proofs.Ytoinimkmoojcoaa
