/- ControllerRun returns true for every input, and leaves its arguments as they were. -/
import Derived.Test.YtoinimkmoojcoaaG9
import Derived.Test.YtoinimkmoojcoaaRows
import Derived.Test.YtoinimkmoojcoaaG7
import Derived.ShutString
set_option maxRecDepth 100000
set_option maxHeartbeats 4000000
set_option linter.unusedSimpArgs false
set_option linter.unusedVariables false
namespace Go.Proofs.Ytoinimkmoojcoaa
open Go Go.Dm
attribute [local simp ↓] RunS_nil RunS_op RunS_guard RunT_nil RunT_op RunT_guard opS_call opD_call opS_move opD_move opS_assign opD_assign opS_pick opD_pick opS_nilCheck opD_nilCheck opS_fieldAddr opD_fieldAddr opS_indexAddr opD_indexAddr opS_load opD_load opS_store opD_store opS_alloc opD_alloc opS_box opD_box opS_build opD_build opS_buildSlice opD_buildSlice opS_field opD_field opS_extract opD_extract opS_makeFunc opD_makeFunc opS_slice opD_slice opS_binOp opD_binOp opS_unOp opD_unOp opS_convert opD_convert opS_index opD_index opS_len opD_len opS_append opD_append opS_max opD_max opS_min opD_min obind_some obind_none thenH_normal thenH_ret thenH_exit blockA_normal blockA_ret blockA_exit thenA_normal thenA_ret thenA_exit dstAt_mk dstL_zero dstL_succ
attribute [local simp] undef wantG_bool wantG_undef findO_some calleeS find putA ev closed3 closed2 closed1 closed0 pickA binF unF convF mxF eqNilA fastBin fastUn fastConv intBin argEnv resultsA resultsL resultA notTuple allocs eff
  loadO storeO allocO boxO sliceO indexO indexAddrA loadA storeA newA isAggT nilCheckA lenA evAll evParts aadd gen upd_at upd_upd Value.cells mxV Pairs apart readsS labOf putAt fieldA partA extractA makeFuncA evOpt boundOf sliceA Nat.add_assoc
attribute [local simp] bu107_z bu107_0_1 bu25_0_1_2 bu36_z bu36_0_1 bu36_0_1_2 bu36_0 bu38_z bu38_0_1_2_3_4 bu38_0_1_3 bu38_0_1_3_4 bu38_1_2 bu38_1_2_3 bu52_0_1_10 bu81_0_1 bs22_0_z bs22_1_0 bs22_2_0_1 bs39_1_0 bs39_7_0_1_2_3_4_5_6 bs95_4_0_1_2_3
attribute [local simp ↓] eql107 neq107 eql36 neq36 eql38 neq38 eql25 neq25
attribute [local simp] fa25_0 fa25_1 fa25_2 fa36_0 fa36_1 fa36_2 fa38_0 fa38_1 fa38_2 fa38_3 fa38_4 fa107_0 fa107_1 fa81_0 fa81_1 fa81_2 fa81_3 fa81_4 fa81_5 fa81_6 fa81_7 fa81_8 fa81_9 fa81_10 fa52_0 fa52_1 fa52_2 fa52_3 fa52_4 fa52_5 fa52_6 fa52_7 fa52_8 fa52_9 fa52_10 fa52_11 fa52_12
attribute [local simp] c22 c39 c29 z22 z39 c25 c38 c2 c3 c4 c36 c107 c30 z25 z38 z2 z3 z4 z36 z107 b38 b25 b107 h38 h25 h36 h107 g38 g25 g36 g107 Try.underlying25 Try.underlying38 Try.underlying2 Try.underlying3 Try.underlying4 Try.underlying36 Try.underlying22 Try.underlying39 Try.underlying29 Try.underlying81 Try.underlying107 Try.underlying30
attribute [local simp] mx mn eqBool
attribute [local simp] Try.underlying57 Try.underlying5 Try.underlying23 c57 c5 c23 c52 z52 b52 h52 g52 Try.underlying52 Try.underlying44
def loop4 (C M : Nat) (lv : Value) (ms : List Mot) (sE : CS) (T : TEnv) (h' : Heap) (n' : Nat) : Prop :=
  find T 0 = some lv ∧ find T 7 = some (pC C) ∧ find T 9 = some (pC M) ∧ Two h' n' C M sE sE lv
abbrev u4_15 : List (Nat × Nat) := [(7, 11)]
theorem w4 {h : Heap} {lv : Value} {ms : List Mot} {S A J : Int} (hr : RO h 9 lv (motCells ms) ms.length) (few : ms.length ≤ 9223372036854775807) (fit : ∀ m ∈ ms, m.Fit) (n : Nat) :
    Dm.Spec Try.prog 4 [lv, limV S A J] h n fun r _ _ => r = .bool true := by
  refine Spec.body Try.func4 rfl (by kernel_rfl) Try.ntmps4 (by rw [Try.results4]) (Nat.le_of_ble_eq_true rfl) ?_
  refine Sat.lt fun hlt => ?_
  have hl1 := lt_fresh (b := ⟨[.int .i64 S, .int .i64 A, .int .i64 J], 23, 0, true⟩) hlt
  have hf1 : Fz h (upd h n ⟨[.int .i64 S, .int .i64 A, .int .i64 J], 23, 0, true⟩) := fun L b x _ => by rw [upd_at, if_neg (by have := hlt L b x; omega)]; exact x
  have hB1 : upd h n ⟨[.int .i64 S, .int .i64 A, .int .i64 J], 23, 0, true⟩ n = some ⟨[.int .i64 S, .int .i64 A, .int .i64 J], 23, 0, true⟩ := by rw [upd_at, if_pos rfl]
  refine Sat.sq ?_
  refine Sat.reg (by kernel_rfl) ?_
  simp -dsimp
  generalize upd h n ⟨[.int .i64 S, .int .i64 A, .int .i64 J], 23, 0, true⟩ = g1 at *
  refine Sat.sq ?_
  refine Sat.reg (by kernel_rfl) ?_
  simp -dsimp [hB1]
  refine (w21 (hr.fz hf1) few fit _).useH ?_
  simp -dsimp
  have hl2 := lt_fresh (b := ⟨[.int .i64 S, .int .i64 A, .int .i64 J], 25, 0, true⟩) hl1
  have hf2 : Fz h (upd g1 (n + 1) ⟨[.int .i64 S, .int .i64 A, .int .i64 J], 25, 0, true⟩) := hf1.trans fun L b x _ => by rw [upd_at, if_neg (by have := hl1 L b x; omega)]; exact x
  have hB2 : upd g1 (n + 1) ⟨[.int .i64 S, .int .i64 A, .int .i64 J], 25, 0, true⟩ (n + 1) = some ⟨[.int .i64 S, .int .i64 A, .int .i64 J], 25, 0, true⟩ := by rw [upd_at, if_pos rfl]
  generalize upd g1 (n + 1) ⟨[.int .i64 S, .int .i64 A, .int .i64 J], 25, 0, true⟩ = g2 at *
  have hr2 := hr.fz hf2
  refine Sat.join (fun T3 h3 n3 => find T3 0 = some lv ∧ find T3 5 = some (.pointer (some ⟨n + 1, 0, none⟩)) ∧ h3 = g2 ∧ n3 = n + 2 ∧ rightM S A J ms = true) ?_ ?_
  · refine Sat.sq ?_
    refine Sat.reg (by kernel_rfl) ?_
    simp -dsimp
    refine w12.useH ?_
    cases hR : rightM S A J ms
    · simp -dsimp
      refine Sat.cond (t := true) (by rfl) ?_
      refine Sat.sq ?_
      refine Sat.reg (by kernel_rfl) ?_
      simp -dsimp
      refine w12.useH ?_
      simp -dsimp
      refine Sat.ret ?_
      try simp -dsimp only [thenH_ret, blockA_ret, thenA_ret]
      exact RetQ.ret (r := .bool true) (by rfl) rfl
    · simp -dsimp
      refine Sat.cond (t := false) (by rfl) ?_
      refine Sat.skip ?_
      simp -dsimp
  rintro T3 h3 n3 ⟨t0, t5, rfl, rfl, hR⟩
  have right := right_ok hR fit
  obtain ⟨htot, hconn⟩ := Right.tot hR
  refine Sat.sq ?_
  refine Sat.reg (by kernel_rfl) ?_
  simp -dsimp [t0, t5, hB2]
  refine (w13 (S := S) (A := A) (J := J) hr2 (by have := right.few; omega) (fun m hm => (right.rate m hm).2) _).onH ?_
  rintro r h4 n4 ⟨hn4, hk4, ⟨hbad, _⟩ | ⟨_, C, hC, hC2, rfl, mv, pl, pv, hc⟩⟩
  · exact absurd right.check hbad
  have keep0 := Keep.new right
  have path0 := CS.Path.new right hconn
  have hcin : CIn h4 n4 C (CS.new S A J ms) := ⟨hC2, C, mv, pl, pv, hc, hC2⟩
  have hr4 : RO h4 9 lv (motCells ms) ms.length := hr2.fz fun L b x _ => by rw [hk4 L (hl2 L b x)]; exact x
  have hB4 : h4 (n + 1) = some ⟨[.int .i64 S, .int .i64 A, .int .i64 J], 25, 0, true⟩ := (hk4 _ (by omega)).trans hB2
  have hnear : ∀ m ∈ ms, m.near := keep0.run.ok.near
  clear hc
  simp -dsimp [t0, t5]
  refine Sat.sq ?_
  refine Sat.sq ?_
  refine Sat.reg (by kernel_rfl) ?_
  simp -dsimp
  refine Sat.cond (t := false) (by rfl) ?_
  refine Sat.skip ?_
  simp -dsimp
  refine Sat.lt fun hlt4 => ?_
  refine Sat.sq ?_
  refine Sat.reg (by kernel_rfl) ?_
  simp -dsimp [t0, t5, hB4]
  refine (w19 hr4 (by have := right.few; omega) hnear _).onH ?_
  rintro r h5 n5 ⟨hn5, hk5, M, hM1, hM2, rfl, pl5, dv5, hm5⟩
  have hrest : (CS.new S A J ms).resting = true := rfl
  have two := hcin.two hlt4 hk5 hM1 hM2 hm5 (fun hx => by rw [hrest] at hx; cases hx)
  have hnew : (CS.new S A J ms).held = false := rfl
  have hE := goOn_done 3000 _ keep0.run path0 keep0.alive hnew (by rw [keep0.ms]; exact htot) (fun h => by have := (CS.prog_le keep0.run h).1; rw [keep0.ms]; omega)
  obtain ⟨bR, bP, bM, bB⟩ := goOn_keep 3000 _ keep0.run path0
  rw [keep0.ms] at bM
  generalize CS.new S A J ms = s0 at *
  obtain ⟨sE, hsE⟩ : ∃ e, goOn 3000 s0 = e := ⟨_, rfl⟩
  rw [hsE] at hE bR bP bM bB
  obtain ⟨hdn, hlead⟩ := bP.end_ hE
  simp -dsimp [t0]
  refine Sat.join (fun T h' n' => loop4 C M lv ms sE T h' n' ∧ sE.pieces.length ≤ 10000) ?_ ?_
  · refine Sat.sq ?_
    refine Sat.reg (by kernel_rfl) ?_
    simp -dsimp
    refine Sat.block ?_
    refine Sat.loop (ι := Nat × CS) (fun i T h' n' => find T 0 = some lv ∧ find T 7 = some (pC C) ∧ find T 9 = some (pC M) ∧ find T 40 = some (.int .i64 (3000 - i.1)) ∧ Two h' n' C M i.2 i.2 lv ∧ Keep S A J ms (3000 - i.1) i.2 ∧ i.2.Path ∧ i.2.held = false ∧ goOn i.1 i.2 = sE ∧ i.1 ≤ 3000) (fun i => i.1) (3000, s0) ?_ ?_
    · exact ⟨by simp [t0, find], rfl, rfl, rfl, two, keep0, path0, hnew, hsE, by simp⟩
    · rintro ⟨k, s⟩ T h' n' ⟨t0, t7, t9, t40, two, hk, hp, hh, he, hle⟩
      simp only at t40 two hk hp hh he hle
      refine Sat.sq ?_
      refine Sat.reg (by kernel_rfl) ?_
      cases k with
      | zero =>
        have t40 : find T 40 = some (.int .i64 3000) := t40
        simp -dsimp [t40]
        refine Sat.sq ?_
        refine Sat.cond (t := false) (by rfl) ?_
        refine Sat.exit ?_
        simp -dsimp
        rw [← he]
        exact ⟨⟨t0, t7, t9, two⟩, by have := hk.few; show s.pieces.length ≤ _; omega⟩
      | succ k =>
        have h3000 : (3000 : Int) - ((k : Int) + 1) < 3000 := by omega
        have t40 : find T 40 = some (.int .i64 (3000 - ((k : Int) + 1))) := by rw [t40]; congr 3
        simp -dsimp [t40, h3000]
        refine Sat.sq ?_
        refine Sat.cond (t := true) (by rfl) ?_
        refine Sat.skip ?_
        simp -dsimp
        have htm : totL s.ms s.ms.length ≤ 2000 := by rw [hk.ms]; exact htot
        have hpcs : s.pieces.length ≤ 1000000 := by have := hk.few; omega
        have hgo : goOn (k + 1) s = if s.moves then goOn k s.tick else s := rfl
        rw [hgo] at he
        refine Sat.sq ?_
        refine Sat.block ?_
        refine Sat.sq ?_
        refine Sat.reg (by kernel_rfl) ?_
        simp -dsimp [t7]
        refine (two.ctick hk.run hpcs).onH ?_
        rintro r h2 n2 ⟨rfl, two2, hn2, hf2⟩
        simp -dsimp [t9]
        refine (two2.mtick hk.run hk.begun hpcs (fun hb hi hh => hp.moves hk.run hb hh htm hi)).onH ?_
        rintro r h3 n3 ⟨rfl, two3, hn3, hf3⟩
        cases hm : s.moves
        · have hst : s.tick = s := by simp [CS.tick, hm]
          rw [hm] at he
          simp only [Bool.false_eq_true, if_false] at he
          rw [hst] at two3
          simp -dsimp
          refine Sat.sq ?_
          refine Sat.sq ?_
          refine Sat.reg (by kernel_rfl) ?_
          simp -dsimp [t7, t9]
          refine (two3.same hk.run).useH ?_
          simp -dsimp
          refine Sat.cond (t := false) (by rfl) ?_
          refine Sat.skip ?_
          simp -dsimp
          refine Sat.sq ?_
          refine Sat.reg (by kernel_rfl) ?_
          simp -dsimp
          refine Sat.cond (t := true) (by rfl) ?_
          refine Sat.exit ?_
          simp -dsimp
          rw [← he]
          exact ⟨⟨by simp [t0, find], by simp [t7, find], by simp [t9, find], two3⟩, by have := hk.few; omega⟩
        · rw [hm] at he
          simp only [if_true] at he
          have W : IntKind.i64.wrap (3000 - ((k : Int) + 1) + 1) = 3000 - (k : Int) := by rw [wrap_in (by omega) (by omega)]; omega
          simp -dsimp
          refine Sat.sq ?_
          refine Sat.sq ?_
          refine Sat.reg (by kernel_rfl) ?_
          simp -dsimp [t7, t9]
          refine (two3.same hk.run.tick).useH ?_
          simp -dsimp
          refine Sat.cond (t := false) (by rfl) ?_
          refine Sat.skip ?_
          simp -dsimp
          refine Sat.sq ?_
          refine Sat.reg (by kernel_rfl) ?_
          simp -dsimp
          refine Sat.cond (t := false) (by rfl) ?_
          refine Sat.skip ?_
          simp -dsimp
          refine Sat.reg (by kernel_rfl) ?_
          simp -dsimp [t0, t7, t9, t40, W]
          refine ⟨k, ⟨rfl, s.tick, two3, ?_, hp.tick hk.run, (tick_eq s).2.2.2.2.1.trans hh, he, by omega⟩, by omega⟩
          have := hk.tick
          rw [show 3000 - (k + 1) + 1 = 3000 - k by omega] at this
          exact this
  rintro T h6 n6 ⟨⟨t0, t7, t9, hC6, hM6, hne6, Lp6, mv6, pl6, pv6, b6, l6, br6, plm6, dv6, hc6, hL6, hML6, hm6, _⟩, hpc6⟩
  refine Sat.lt fun hlt6 => ?_
  obtain ⟨F1, hF1, hs1⟩ := (hc6.reads (g := 24) fun h2 n2 hc => w24 hc n2).lt hlt6
  obtain ⟨Ag, cg, eg⟩ := gcv_val n6 9 sE.done.length
  obtain ⟨rd, hsame, hlt7⟩ := gc_ro (e := 38) hlt6 (motCells_length sE.done)
  have hdone := w20 hc6 bR.ok (by omega) n6 false
  generalize hg7 : applyU h6 (gcu n6 38 (motCells sE.done) sE.done.length false) = g7 at *
  rw [eg] at rd hdone
  have hm7 : MRepV g7 M sE b6 l6 br6 lv plm6 dv6 := hm6.fz (hsame M hM6) (fun L b x _ => by rw [hsame L (hlt6 L b x)]; exact x)
  obtain ⟨Ad, cd, rfl⟩ := hm6.done.len
  obtain ⟨F3, hF3, hs3⟩ := (w25r rd hm7.done (by rw [hdn]; omega)).lt hlt7
  obtain ⟨Al, cl, rfl⟩ := hr.len
  rw [hE, bM] at hs1
  refine Sat.sq ?_
  refine Sat.drw u4_15 mixed (by kernel_rfl) (by kernel_rfl) (by kernel_rfl) (by kernel_rfl) ?_
  simp -dsimp [t0, t7]
  refine callD.reads _ F1 hs1 ?_
  simp -dsimp [t0, t7]
  refine callD.heavy _ (gcu n6 38 (motCells sE.done) sE.done.length false) (n6 + 1) (Nat.le_succ n6) (gcu_lt _ _ _ _ _) (by rw [hg7]; exact hdone) ?_
  rw [hg7]
  simp -dsimp [t9, hm7.blk]
  refine callD.reads _ F3 hs3 ?_
  simp -dsimp [hdn]
  refine ⟨fun a b hab => ?_, ?_⟩
  · unfold gcu at hab
    split at hab
    · cases hab
    · simp only [List.mem_singleton, Prod.mk.injEq] at hab; omega
  refine Sat.ret ?_
  try simp -dsimp only [thenH_ret, blockA_ret, thenA_ret]
  exact RetQ.ret (r := .bool true) (by rfl) rfl

end Go.Proofs.Ytoinimkmoojcoaa
/- ControllerRun returns true for every input, and leaves its arguments as they were. -/
set_option maxRecDepth 100000
set_option linter.unusedSimpArgs false
set_option linter.unusedVariables false
namespace Go.Proofs.Ytoinimkmoojcoaa
open Go Go.Dm Go.ChangeShapes Go.WideShapes Go.ChangeAt Go.RowKit
theorem own : ownKnob Try.prog.godebug = none := by kernel_rfl
theorem laidOut : laidOutB Try.prog = true := by kernel_rfl
theorem lifted4 (os : Os) (started : os.Started) (H : Type) (enc : TypeId × Value → H) :
    ReturnsInHanded {} Try.checked os 4 .any (Rows.controllerRunSpec.pre6 enc Try.prog Try.f4 Rows.controllerRunRow.domain false) (Rows.controllerRunSpec.post enc Try.prog Try.f4 false true false false) := by
  refine returnsInHanded_of_change (C := Try.checked) own started (by kernel_rfl) Try.func4
    (ChangeSpec.witness6 (enc := enc) (C := Try.checked) false ⟨#[], #[.slice none 0 0, .agg #[.int .i64 0, .int .i64 0, .int .i64 0]], []⟩ 8 (by kernel_rfl) (by kernel_rfl) (by kernel_rfl) (by kernel_rfl)) ?_
  intro W base args ds gs before hval0 hW hcnd _
  have hval : ∀ (j : Nat) t v, Try.f4.params[j]? = some t → args[j]? = some v → Value.okWide Try.prog W .any base t v := hval0
  have hW' := hW
  obtain ⟨p, q, hA0, hV, rfl, hfz, hnd⟩ := hW
  have hA : DataW.TrodAll enc Try.prog W 0 (fun _ => true) true Try.f4.params.toList args.toList ds p := hA0
  rw [Try.params4] at hA hval
  obtain ⟨v0, vs0, d0, ds0, p0, q0, hargs, rfl, rfl, h0, r0⟩ := trodAll_cons hA
  obtain ⟨v1, vs1, d1, ds1, p1, q1, rfl, rfl, rfl, h1, r1⟩ := trodAll_cons r0
  obtain ⟨rfl, rfl, rfl⟩ := trodAll_nil r1
  obtain rfl : args = #[v0, v1] := by cases args; simp_all
  obtain ⟨rfl, rfl⟩ := trodVars_none hV
  obtain ⟨a0, len0, cap0, rfl⟩ := okWide_slice Try.underlying22 (hval 0 22 v0 rfl rfl)
  have agg1 : ∃ cs, v1 = .agg cs := okWide_arr Try.underlying23 (hval 1 23 v1 rfl rfl)
  have lt0 : ∀ x ∈ p0, x.block < W.heap.size := by obtain ⟨m, hm⟩ := h0; exact DataW.trod_lt m _ _ _ hm
  have lt1 : ∀ x ∈ p1, x.block < W.heap.size := by obtain ⟨m, hm⟩ := h1; exact DataW.trod_lt m _ _ _ hm
  clear hA0 hval0
  obtain ⟨ms, lv, g1, m1, n1, E1, _, _, _, q0, ro1, fit, few⟩ := mots_in (Ent.nil W) h0
  obtain ⟨S, A, J, rfl, _, _, _⟩ := lim_in agg1 h1
  refine ((w4 ro1 few fit n1).law E1 ⟨_, Try.func4, by kernel_rfl, by kernel_rfl⟩ (args := [.slice a0 len0 cap0, limV S A J]) (.cons q0 (.cons (VR3.refl rfl) .nil))).mono fun e W' ⟨he, bel⟩ => ?_
  subst he
  exact ⟨_, rfl, _, _, _, [], _, [], hW', trodAll_mk1 (shut_bool Try.underlying4 _), (trodAll_cons_mk (Below.trod laidOut (by kernel_rfl) (of_decide_eq_true (by kernel_rfl)) h0 bel lt0) (trodAll_cons_mk (Below.trod laidOut (by kernel_rfl) (of_decide_eq_true (by kernel_rfl)) h1 bel lt1) trodAll_mk0)), rfl, bel.frame _, fun h => by cases h⟩
theorem over4 : Rows.controllerRunRow.holds Try.pinned (OpenSpec.ofChange Rows.controllerRunSpec) :=
  OpenClaim.holds_of_wide 4 Try.f4 rfl rfl rfl rfl rfl rfl rfl ⟨rfl, rfl, rfl, rfl, rfl⟩ rfl rfl rfl rfl rfl (by kernel_rfl) Try.func4 (by kernel_rfl)
    (of_decide_eq_true (by kernel_rfl)) (by unfold Func.isWrapper; first | (rw [if_pos (by decide +kernel)]; kernel_rfl) | (rw [if_neg (by decide +kernel)]; exact ⟨rfl, rfl⟩))
    (fun os started H enc _ => lifted4 os started H enc)
/-- THE STATEMENT. -/
theorem controllerRun : Rows.ControllerRunSaid := over4
#print axioms controllerRun
end Go.Proofs.Ytoinimkmoojcoaa
