/- ControllerBreak returns true for every input, and leaves its arguments as they were. -/
import Derived.Test.YtoinimkmoojcoaaG7
import Derived.Test.YtoinimkmoojcoaaRows
import Derived.ShutString
set_option maxRecDepth 100000
set_option maxHeartbeats 4000000
set_option linter.unusedSimpArgs false
set_option linter.unusedVariables false
namespace Go.Proofs.Ytoinimkmoojcoaa
open Go Go.Dm
attribute [local simp ↓] RunS_nil RunS_op RunS_guard RunT_nil RunT_op RunT_guard opS_call opD_call opS_move opD_move opS_assign opD_assign opS_pick opD_pick opS_nilCheck opD_nilCheck opS_fieldAddr opD_fieldAddr opS_indexAddr opD_indexAddr opS_load opD_load opS_store opD_store opS_alloc opD_alloc opS_box opD_box opS_build opD_build opS_buildSlice opD_buildSlice opS_field opD_field opS_extract opD_extract opS_makeFunc opD_makeFunc opS_slice opD_slice opS_binOp opD_binOp opS_unOp opD_unOp opS_convert opD_convert opS_index opD_index opS_len opD_len opS_append opD_append opS_max opD_max opS_min opD_min obind_some obind_none thenH_normal thenH_ret thenH_exit blockA_normal blockA_ret blockA_exit thenA_normal thenA_ret thenA_exit dstAt_mk dstL_zero dstL_succ
attribute [local simp] undef wantG_bool wantG_undef findO_some calleeS find putA ev closed3 closed2 closed1 closed0 pickA binF unF convF mxF eqNilA fastBin fastUn fastConv intBin argEnv resultsA resultsL resultA notTuple allocs eff
  loadO storeO allocO boxO sliceO indexO indexAddrA loadA storeA newA isAggT nilCheckA lenA evAll evParts aadd gen upd_at upd_upd Value.cells mxV Pairs apart readsS labOf putAt fieldA partA extractA makeFuncA evOpt boundOf sliceA Nat.add_assoc
attribute [local simp] bu107_z bu107_0_1 bu25_0_1_2 bu36_z bu36_0_1 bu36_0_1_2 bu36_0 bu38_z bu38_0_1_2_3_4 bu38_0_1_3 bu38_0_1_3_4 bu38_1_2 bu38_1_2_3 bu52_0_1_10 bu81_0_1 bs22_0_z bs22_1_0 bs22_2_0_1 bs39_1_0 bs39_7_0_1_2_3_4_5_6 bs95_4_0_1_2_3
attribute [local simp ↓] eql107 neq107 eql36 neq36 eql38 neq38 eql25 neq25
attribute [local simp] fa25_0 fa25_1 fa25_2 fa36_0 fa36_1 fa36_2 fa38_0 fa38_1 fa38_2 fa38_3 fa38_4 fa107_0 fa107_1 fa81_0 fa81_1 fa81_2 fa81_3 fa81_4 fa81_5 fa81_6 fa81_7 fa81_8 fa81_9 fa81_10 fa52_0 fa52_1 fa52_2 fa52_3 fa52_4 fa52_5 fa52_6 fa52_7 fa52_8 fa52_9 fa52_10 fa52_11 fa52_12
attribute [local simp] c22 c39 c29 z22 z39 c25 c38 c2 c3 c4 c36 c107 c30 z25 z38 z2 z3 z4 z36 z107 b38 b25 b107 h38 h25 h36 h107 g38 g25 g36 g107 Try.underlying25 Try.underlying38 Try.underlying2 Try.underlying3 Try.underlying4 Try.underlying36 Try.underlying22 Try.underlying39 Try.underlying29 Try.underlying81 Try.underlying107 Try.underlying30
attribute [local simp] mx mn
attribute [local simp] Try.underlying57 Try.underlying5 Try.underlying23 c57 c5 c23
abbrev u9_27 : List (Nat × Nat) := [(7, 8)]
theorem w9 {h : Heap} {lv ov : Value} {ms : List Mot} {S A J : Int} {ops : List Int} (hr : RO h 9 lv (motCells ms) ms.length) (few : ms.length ≤ 9223372036854775807) (fit : ∀ m ∈ ms, m.Fit) (ho : RO h 1 ov (u8s ops) ops.length) (hby : ∀ x ∈ ops, 0 ≤ x ∧ x ≤ 255) (n : Nat) :
    Dm.Spec Try.prog 9 [lv, limV S A J, ov] h n fun r _ _ => r = .bool true := by
  refine Spec.body Try.func9 rfl (by kernel_rfl) Try.ntmps9 (by rw [Try.results9]) (Nat.le_of_ble_eq_true rfl) ?_
  refine Sat.lt fun hlt => ?_
  obtain ⟨Ao, co, rfl⟩ := ho.len
  have hl1 := lt_fresh (b := ⟨[.int .i64 S, .int .i64 A, .int .i64 J], 23, 0, true⟩) hlt
  have hf1 : Fz h (upd h n ⟨[.int .i64 S, .int .i64 A, .int .i64 J], 23, 0, true⟩) := fun L b x _ => by rw [upd_at, if_neg (by have := hlt L b x; omega)]; exact x
  have hB1 : upd h n ⟨[.int .i64 S, .int .i64 A, .int .i64 J], 23, 0, true⟩ n = some ⟨[.int .i64 S, .int .i64 A, .int .i64 J], 23, 0, true⟩ := by rw [upd_at, if_pos rfl]
  refine Sat.sq ?_
  refine Sat.reg (by kernel_rfl) ?_
  simp -dsimp
  generalize upd h n ⟨[.int .i64 S, .int .i64 A, .int .i64 J], 23, 0, true⟩ = g1 at *
  refine Sat.sq ?_
  refine Sat.reg (by kernel_rfl) ?_
  simp -dsimp [hB1]
  refine (w21 (hr.fz hf1) few fit _).useH ?_
  simp -dsimp
  have hl2 := lt_fresh (b := ⟨[.int .i64 S, .int .i64 A, .int .i64 J], 25, 0, true⟩) hl1
  have hf2 : Fz h (upd g1 (n + 1) ⟨[.int .i64 S, .int .i64 A, .int .i64 J], 25, 0, true⟩) := hf1.trans fun L b x _ => by rw [upd_at, if_neg (by have := hl1 L b x; omega)]; exact x
  have hB2 : upd g1 (n + 1) ⟨[.int .i64 S, .int .i64 A, .int .i64 J], 25, 0, true⟩ (n + 1) = some ⟨[.int .i64 S, .int .i64 A, .int .i64 J], 25, 0, true⟩ := by rw [upd_at, if_pos rfl]
  generalize upd g1 (n + 1) ⟨[.int .i64 S, .int .i64 A, .int .i64 J], 25, 0, true⟩ = g2 at *
  have hr2 := hr.fz hf2
  have ho2 := ho.fz hf2
  refine Sat.join (fun T3 h3 n3 => find T3 0 = some lv ∧ find T3 2 = some (.slice Ao ops.length co) ∧ find T3 7 = some (.pointer (some ⟨n + 1, 0, none⟩)) ∧ h3 = g2 ∧ n3 = n + 2 ∧ rightM S A J ms = true ∧ ops.length ≤ 60) ?_ ?_
  · refine Sat.sq ?_
    refine Sat.reg (by kernel_rfl) ?_
    simp -dsimp
    refine w12.useH ?_
    cases hR : rightM S A J ms
    · simp -dsimp
      refine Sat.cond (t := true) (by rfl) ?_
      refine Sat.sq ?_
      refine Sat.reg (by kernel_rfl) ?_
      simp -dsimp
      refine w12.useH ?_
      simp -dsimp
      refine Sat.ret ?_
      try simp -dsimp only [thenH_ret, blockA_ret, thenA_ret]
      exact RetQ.ret (r := .bool true) (by rfl) rfl
    · by_cases h60 : ops.length ≤ 60
      · have h60' : ¬ (60 : Int) < ops.length := by omega
        simp -dsimp [h60']
        refine Sat.cond (t := false) (by rfl) ?_
        refine Sat.skip ?_
        simp -dsimp
        exact h60
      · have h60' : (60 : Int) < ops.length := by omega
        simp -dsimp [h60']
        refine Sat.cond (t := true) (by rfl) ?_
        refine Sat.sq ?_
        refine Sat.reg (by kernel_rfl) ?_
        simp -dsimp
        refine w12.useH ?_
        simp -dsimp
        refine Sat.ret ?_
        try simp -dsimp only [thenH_ret, blockA_ret, thenA_ret]
        exact RetQ.ret (r := .bool true) (by rfl) rfl
  rintro T3 h3 n3 ⟨t0, t2, t7, rfl, rfl, hR, h60⟩
  have right := right_ok hR fit
  refine Sat.sq ?_
  refine Sat.reg (by kernel_rfl) ?_
  simp -dsimp [t0, t7, hB2]
  refine (w13 (S := S) (A := A) (J := J) hr2 (by have := right.few; omega) (fun m hm => (right.rate m hm).2) _).onH ?_
  rintro r h4 n4 ⟨hn4, hk4, ⟨hbad, _⟩ | ⟨_, C, hC, hC2, rfl, mv, pl, pv, hc⟩⟩
  · exact absurd right.check hbad
  have keep0 := Keep.new right
  have hcin : CIn h4 n4 C (CS.new S A J ms) := ⟨hC2, C, mv, pl, pv, hc, hC2⟩
  have ho4 : RO h4 1 (.slice Ao ops.length co) (u8s ops) ops.length := ho2.fz fun L b x _ => by rw [hk4 L (hl2 L b x)]; exact x
  generalize CS.new S A J ms = s0 at *
  clear hc
  simp -dsimp [t0, t2]
  refine Sat.sq ?_
  refine Sat.sq ?_
  refine Sat.reg (by kernel_rfl) ?_
  simp -dsimp
  refine Sat.cond (t := false) (by rfl) ?_
  refine Sat.skip ?_
  simp -dsimp
  refine Sat.join (fun T h' n' => find T 2 = some (.slice Ao ops.length co) ∧ find T 9 = some (pC C) ∧ RO h' 1 (.slice Ao ops.length co) (u8s ops) ops.length ∧ ∃ s, Keep S A J ms 60 s ∧ CIn h' n' C s) ?_ ?_
  · have D : (ops.length : Int).tdiv 2 = (ops.length : Int) / 2 := Int.tdiv_eq_ediv_of_nonneg (by omega)
    have W0 : IntKind.i64.wrap ((ops.length : Int) / 2) = (ops.length : Int) / 2 := wrap_in (by omega) (by omega)
    refine Sat.sq ?_
    refine Sat.reg (by kernel_rfl) ?_
    simp -dsimp [t2, D, W0]
    refine Sat.block ?_
    refine Sat.loop (ι := Int × CS) (fun i T h' n' => find T 2 = some (.slice Ao ops.length co) ∧ find T 9 = some (pC C) ∧ find T 50 = some (.int .i64 ((ops.length : Int) / 2)) ∧ find T 51 = some (.int .i64 i.1) ∧ RO h' 1 (.slice Ao ops.length co) (u8s ops) ops.length ∧
      0 ≤ i.1 ∧ i.1 ≤ ops.length ∧ Keep S A J ms i.1.toNat i.2 ∧ CIn h' n' C i.2) (fun i => (ops.length - i.1).toNat) (0, s0) ?_ ?_
    · exact ⟨t2, rfl, rfl, rfl, ho4, by simp, by simp, keep0, hcin⟩
    · rintro ⟨i, s⟩ T h' n' ⟨t2, t9, t50, t51, hro, i0, i1, hk, hc⟩
      simp only at t51 i0 i1 hk hc
      refine Sat.sq ?_
      refine Sat.reg (by kernel_rfl) ?_
      simp -dsimp [t50, t51]
      refine Sat.sq ?_
      refine Sat.ite rfl (fun hq => ?_) (fun hq => ?_)
      · have hq : i < (ops.length : Int) / 2 := by simpa using hq
        have W : IntKind.i64.wrap (i + 1) = i + 1 := wrap_in (by omega) (by omega)
        refine Sat.skip ?_
        simp -dsimp
        refine Sat.sq ?_
        refine Sat.block ?_
        refine Sat.reg (by kernel_rfl) ?_
        simp -dsimp [t9]
        refine (hc.tick hk.run (by have := hk.few; omega)).onH ?_
        rintro r h2 n2 ⟨rfl, hc2, hn2, hf2⟩
        simp -dsimp
        refine Sat.reg (by kernel_rfl) ?_
        simp -dsimp [t2, t9, t50, t51, W]
        exact ⟨i + 1, ⟨rfl, hro.fz hf2, by omega, by omega, s.tick, by rw [show (i + 1).toNat = i.toNat + 1 by omega]; exact hk.tick, hc2⟩, by omega⟩
      · have hq : ¬ i < (ops.length : Int) / 2 := by simpa using hq
        refine Sat.exit ?_
        simp -dsimp [t2, t9]
        exact ⟨hro, s, ⟨hk.run, hk.begun, hk.ms, hk.lim, hk.alive, by have := hk.few; omega⟩, hc⟩
  rintro T h' n' ⟨t2, t9, hro, s, hk, hc⟩
  refine Sat.sq ?_
  refine Sat.reg (by kernel_rfl) ?_
  simp -dsimp [t9]
  refine (hc.brk hk.run.ok (by have := hk.few; omega)).onH ?_
  have hrB := hk.run.brk
  obtain ⟨_, _, _, _, _, _, hB7, hB8⟩ := brk_eq s
  have hfB := hk.few
  have hBh : s.brk.held = false ∧ s.brk.resting = true := by simp [CS.brk, hk.alive, CS.resting]
  generalize s.brk = sB at *
  rintro r h5 n5 ⟨rfl, hc5, _, hf5⟩
  have hro5 := hro.fz hf5
  clear hc
  obtain ⟨hC5, Lp5, mv5, pl5, pv5, hc5, hL5⟩ := hc5
  simp -dsimp
  refine Sat.lt fun hlt5 => ?_
  refine Sat.sq ?_
  refine Sat.reg (by kernel_rfl) ?_
  simp -dsimp [t9]
  refine (w31 hc5 hrB.ok _).useH ?_
  simp -dsimp [t9]
  refine (w24 hc5 _).useH ?_
  simp -dsimp [t9]
  obtain ⟨Ag, cg, eg⟩ := gcv_val n5 9 sB.done.length
  obtain ⟨rd, hsame, hlt6⟩ := gc_ro (e := 38) hlt5 (motCells_length sB.done)
  have hdone := w20 hc5 hrB.ok (by omega) n5 false
  generalize applyU h5 (gcu n5 38 (motCells sB.done) sB.done.length false) = h6 at *
  rw [eg] at rd hdone
  refine hdone.useH ?_
  simp -dsimp
  obtain ⟨hc6, _⟩ := hc5.same (n' := n5 + 1) hlt5 hsame (by omega)
  have hro6 := hro5.fz (h' := h6) fun L b x _ => by rw [hsame L (hlt5 L b x)]; exact x
  refine Sat.freeze (n5 + 1) (b := ⟨[.int .i64 sB.pos.x, .int .i64 sB.pos.y, .int .i64 sB.pos.z], 36, 0, true⟩) (by rw [upd_at, if_pos rfl]) ?_
  rw [upd_upd]
  dsimp only
  have hP7 : upd h6 (n5 + 1) ⟨[.int .i64 sB.pos.x, .int .i64 sB.pos.y, .int .i64 sB.pos.z], 36, 0, false⟩ (n5 + 1) = some ⟨[.int .i64 sB.pos.x, .int .i64 sB.pos.y, .int .i64 sB.pos.z], 36, 0, false⟩ := by rw [upd_at, if_pos rfl]
  have hf7 : Fz h6 (upd h6 (n5 + 1) ⟨[.int .i64 sB.pos.x, .int .i64 sB.pos.y, .int .i64 sB.pos.z], 36, 0, false⟩) := fun L b x _ => by rw [upd_at, if_neg (by have := hlt6 L b x; omega)]; exact x
  have hc7 : CIn (upd h6 (n5 + 1) ⟨[.int .i64 sB.pos.x, .int .i64 sB.pos.y, .int .i64 sB.pos.z], 36, 0, false⟩) (n5 + 2) C sB := CIn.up ⟨by omega, Lp5, mv5, pl5, pv5, hc6, by omega⟩ hlt6 (fun L hL => by rw [upd_at, if_neg (by omega)]) (by omega)
  generalize upd h6 (n5 + 1) ⟨[.int .i64 sB.pos.x, .int .i64 sB.pos.y, .int .i64 sB.pos.z], 36, 0, false⟩ = h7 at *
  have rd7 := rd.fz hf7
  have hro7 := hro6.fz hf7
  have hkeep : ({ sB with held := false } : CS) = sB := by cases sB; simp_all
  have hbeg : sB.Begun := fun hh => by have := hBh.2; simp only [CS.resting, decide_eq_true_eq] at this; omega
  have hhold : sB.hold = sB := by simp [CS.hold, hB7]
  have hbrk : sB.brk = sB := by simp [CS.brk, hB7]
  have htick : sB.tick = sB := by simp [CS.tick, CS.moves, hB7]
  have hmv : sB.moves = false := by simp [CS.moves, hB7]
  refine Sat.join (fun T h' n' => find T 9 = some (pC C) ∧ find T 11 = some (.pointer (some ⟨n5 + 1, 0, none⟩)) ∧ find T 12 = some (.int .i64 sB.index) ∧ find T 13 = some (.slice Ag sB.done.length cg) ∧ Fz h7 h' ∧ CIn h' n' C sB) ?_ ?_
  · refine Sat.sq ?_
    refine Sat.reg (by kernel_rfl) ?_
    simp -dsimp [t2]
    refine Sat.block ?_
    refine Sat.loop (ι := Int) (fun i T h' n' => find T 9 = some (pC C) ∧ find T 11 = some (.pointer (some ⟨n5 + 1, 0, none⟩)) ∧ find T 12 = some (.int .i64 sB.index) ∧ find T 13 = some (.slice Ag sB.done.length cg) ∧ Fz h7 h' ∧ find T 64 = some (.slice Ao ops.length co) ∧ find T 65 = some (.int .i64 ops.length) ∧ find T 66 = some (.int .i64 i) ∧
      0 ≤ i ∧ i ≤ ops.length ∧ CIn h' n' C sB) (fun i => (ops.length - i).toNat) 0 ?_ ?_
    · exact ⟨t9, rfl, rfl, rfl, Fz.refl _, rfl, rfl, rfl, by simp, by simp, hc7⟩
    · rintro i T h' n' ⟨t9, t11, t12, t13, hfz, t64, t65, t66, i0, i1, hc⟩
      have hro := hro7.fz hfz
      refine Sat.sq ?_
      refine Sat.reg (by kernel_rfl) ?_
      simp -dsimp [t65, t66]
      refine Sat.sq ?_
      refine Sat.ite rfl (fun hq => ?_) (fun hq => ?_)
      · have hq : i < ops.length := by simpa using hq
        obtain ⟨B, o, sp, b, hB, hbo, idx, ld⟩ := hro.u8 i0 hq
        have hb := hby _ (by rw [getElem!_pos ops i.toNat (by omega)]; exact List.getElem_mem _ : ops[i.toNat]! ∈ ops)
        refine Sat.skip ?_
        simp -dsimp
        refine Sat.join (fun T h'' n'' => find T 9 = some (pC C) ∧ find T 11 = some (.pointer (some ⟨n5 + 1, 0, none⟩)) ∧ find T 12 = some (.int .i64 sB.index) ∧ find T 13 = some (.slice Ag sB.done.length cg) ∧ Fz h7 h'' ∧ find T 64 = some (.slice Ao ops.length co) ∧ find T 65 = some (.int .i64 ops.length) ∧ find T 66 = some (.int .i64 i) ∧ CIn h'' n'' C sB) ?_ ?_
        · generalize ops[i.toNat]! = x at *
          refine Sat.block ?_
          refine Sat.sq ?_
          refine Sat.reg (by kernel_rfl) ?_
          simp -dsimp [t64, t66, -indexAddrA, idx, ↓ld, hB]
          refine Sat.sq ?_
          refine Sat.reg (by kernel_rfl) ?_
          simp -dsimp
          refine Sat.block ?_
          refine Sat.sq ?_
          refine Sat.reg (by kernel_rfl) ?_
          simp -dsimp
          refine Sat.ite rfl (fun hz => ?_) (fun hz => ?_)
          · refine Sat.reg (by kernel_rfl) ?_
            simp -dsimp [t9]
            refine (hc.hold hrB hbeg (by omega)).onH ?_
            rw [hhold]
            rintro r h2 n2 ⟨rfl, hc2, hn2, hf2⟩
            simp -dsimp [t9, t11, t12, t13, t64, t65, t66]
            exact ⟨hfz.trans hf2, hc2⟩
          · refine Sat.sq ?_
            refine Sat.reg (by kernel_rfl) ?_
            simp -dsimp
            refine Sat.ite rfl (fun hz => ?_) (fun hz => ?_)
            · refine Sat.reg (by kernel_rfl) ?_
              simp -dsimp [t9]
              refine hc.resume.onH ?_
              rw [hkeep]
              rintro r h2 n2 ⟨rfl, hc2, hn2, hf2⟩
              simp -dsimp [t9, t11, t12, t13, t64, t65, t66]
              exact ⟨hfz.trans hf2, hc2⟩
            · refine Sat.sq ?_
              refine Sat.reg (by kernel_rfl) ?_
              simp -dsimp
              refine Sat.ite rfl (fun hz => ?_) (fun hz => ?_)
              · refine Sat.reg (by kernel_rfl) ?_
                simp -dsimp [t9]
                refine (hc.brk hrB.ok (by omega)).onH ?_
                rw [hbrk]
                rintro r h2 n2 ⟨rfl, hc2, hn2, hf2⟩
                simp -dsimp [t9, t11, t12, t13, t64, t65, t66]
                exact ⟨hfz.trans hf2, hc2⟩
              · refine Sat.sq ?_
                refine Sat.reg (by kernel_rfl) ?_
                simp -dsimp [t9]
                refine (hc.tick hrB (by omega)).onH ?_
                rw [htick, hmv]
                rintro r h2 n2 ⟨rfl, hc2, hn2, hf2⟩
                simp -dsimp
                refine Sat.cond (t := false) (by rfl) ?_
                refine Sat.skip ?_
                simp -dsimp [t9, t11, t12, t13, t64, t65, t66]
                exact ⟨hfz.trans hf2, hc2⟩
        · rintro T2 h2 n2 ⟨t9, t11, t12, t13, hfz, t64, t65, t66, hc⟩
          have W : IntKind.i64.wrap (i + 1) = i + 1 := wrap_in (by omega) (by omega)
          refine Sat.reg (by kernel_rfl) ?_
          simp -dsimp [t9, t11, t12, t13, t64, t65, t66, W]
          exact ⟨i + 1, ⟨hfz, rfl, by omega, by omega, hc⟩, by omega⟩
      · have hq : ¬ i < ops.length := by simpa using hq
        refine Sat.exit ?_
        simp -dsimp [t9, t11, t12, t13]
        exact ⟨hfz, hc⟩
  rintro T h8 n8 ⟨t9, t11, t12, t13, hfz, ⟨hC8, Lp8, mv8, pl8, pv8, hc8, hL8⟩⟩
  refine Sat.lt fun hlt8 => ?_
  have hP8 := hfz _ _ hP7 rfl
  have rd8 := rd7.fz hfz
  refine Sat.sq ?_
  refine Sat.reg (by kernel_rfl) ?_
  simp -dsimp [t9]
  refine (w30 hc8 _).useH ?_
  rw [hBh.1, hBh.2]
  simp -dsimp
  obtain ⟨F2, hF2, hs2⟩ := hc8.reads (g := 31) fun h2 n2 hc => w31 hc hrB.ok n2
  obtain ⟨F3, hF3, hs3⟩ := hc8.reads (g := 24) fun h2 n2 hc => w24 hc n2
  obtain ⟨Ag2, cg2, eg2⟩ := gcv_val n8 9 sB.done.length
  obtain ⟨rd9, hsame9, hlt9⟩ := gc_ro (e := 38) hlt8 (motCells_length sB.done)
  have hdone9 := w20 hc8 hrB.ok (by omega) n8 false
  obtain ⟨hc9, _⟩ := hc8.same (n' := n8 + 1) hlt8 hsame9 (by omega)
  have rd8' := rd8.fz (h' := applyU h8 (gcu n8 38 (motCells sB.done) sB.done.length false)) fun L b x _ => by rw [hsame9 L (hlt8 L b x)]; exact x
  obtain ⟨us, hus⟩ : ∃ us, gcu n8 38 (motCells sB.done) sB.done.length false = us := ⟨_, rfl⟩
  have husl := gcu_lt n8 38 (motCells sB.done) sB.done.length false
  rw [hus] at hdone9 rd9 hsame9 hlt9 hc9 rd8' husl
  rw [eg2] at rd9 hdone9
  obtain ⟨F4, hF4, hs4⟩ := (w25r rd9 rd8' (by have := hB8; unfold CS.done; simp; split <;> simp <;> omega)).lt hlt9
  obtain ⟨F5, hF5, hs5⟩ := hc9.reads (g := 22) fun h2 n2 hc => w22still hc (.inl hB7) n2
  refine Sat.sq ?_
  refine Sat.drw u9_27 mixed (by kernel_rfl) (by kernel_rfl) (by kernel_rfl) (by kernel_rfl) ?_
  simp -dsimp [t9]
  refine callD.reads _ F2 hs2 ?_
  simp -dsimp [t9, t11, hP8]
  refine callD.reads _ F3 hs3 ?_
  simp -dsimp [t9, t12]
  refine callD.heavy _ us (n8 + 1) (Nat.le_succ n8) husl hdone9 ?_
  simp -dsimp [t13]
  refine callD.reads _ F4 hs4 ?_
  simp -dsimp [t9]
  refine callD.reads _ F5 hs5 ?_
  simp -dsimp
  refine Sat.ret ?_
  try simp -dsimp only [thenH_ret, blockA_ret, thenA_ret]
  exact RetQ.ret (r := .bool true) (by rfl) rfl

end Go.Proofs.Ytoinimkmoojcoaa
/- ControllerBreak returns true for every input, and leaves its arguments as they were. -/
set_option maxRecDepth 100000
set_option linter.unusedSimpArgs false
set_option linter.unusedVariables false
namespace Go.Proofs.Ytoinimkmoojcoaa
open Go Go.Dm Go.ChangeShapes Go.WideShapes Go.ChangeAt Go.RowKit
theorem own : ownKnob Try.prog.godebug = none := by kernel_rfl
theorem laidOut : laidOutB Try.prog = true := by kernel_rfl
theorem lifted9 (os : Os) (started : os.Started) (H : Type) (enc : TypeId × Value → H) :
    ReturnsInHanded {} Try.checked os 9 .any (Rows.controllerBreakSpec.pre6 enc Try.prog Try.f9 Rows.controllerBreakRow.domain false) (Rows.controllerBreakSpec.post enc Try.prog Try.f9 false true false false) := by
  refine returnsInHanded_of_change (C := Try.checked) own started (by kernel_rfl) Try.func9
    (ChangeSpec.witness6 (enc := enc) (C := Try.checked) false ⟨#[], #[.slice none 0 0, .agg #[.int .i64 0, .int .i64 0, .int .i64 0], .slice none 0 0], []⟩ 8 (by kernel_rfl) (by kernel_rfl) (by kernel_rfl) (by kernel_rfl)) ?_
  intro W base args ds gs before hval0 hW hcnd _
  have hval : ∀ (j : Nat) t v, Try.f9.params[j]? = some t → args[j]? = some v → Value.okWide Try.prog W .any base t v := hval0
  have hW' := hW
  obtain ⟨p, q, hA0, hV, rfl, hfz, hnd⟩ := hW
  have hA : DataW.TrodAll enc Try.prog W 0 (fun _ => true) true Try.f9.params.toList args.toList ds p := hA0
  rw [Try.params9] at hA hval
  obtain ⟨v0, vs0, d0, ds0, p0, q0, hargs, rfl, rfl, h0, r0⟩ := trodAll_cons hA
  obtain ⟨v1, vs1, d1, ds1, p1, q1, rfl, rfl, rfl, h1, r1⟩ := trodAll_cons r0
  obtain ⟨v2, vs2, d2, ds2, p2, q2, rfl, rfl, rfl, h2, r2⟩ := trodAll_cons r1
  obtain ⟨rfl, rfl, rfl⟩ := trodAll_nil r2
  obtain rfl : args = #[v0, v1, v2] := by cases args; simp_all
  obtain ⟨rfl, rfl⟩ := trodVars_none hV
  obtain ⟨a0, len0, cap0, rfl⟩ := okWide_slice Try.underlying22 (hval 0 22 v0 rfl rfl)
  obtain ⟨a2, len2, cap2, rfl⟩ := okWide_slice Try.underlying57 (hval 2 57 v2 rfl rfl)
  have agg1 : ∃ cs, v1 = .agg cs := okWide_arr Try.underlying23 (hval 1 23 v1 rfl rfl)
  have lt0 : ∀ x ∈ p0, x.block < W.heap.size := by obtain ⟨m, hm⟩ := h0; exact DataW.trod_lt m _ _ _ hm
  have lt1 : ∀ x ∈ p1, x.block < W.heap.size := by obtain ⟨m, hm⟩ := h1; exact DataW.trod_lt m _ _ _ hm
  have lt2 : ∀ x ∈ p2, x.block < W.heap.size := by obtain ⟨m, hm⟩ := h2; exact DataW.trod_lt m _ _ _ hm
  clear hA0 hval0
  obtain ⟨ms, lv, g1, m1, n1, E1, _, _, _, q0, ro1, fit, few⟩ := mots_in (Ent.nil W) h0
  obtain ⟨bs, ov, g2, m2, n2, E2, le2, _, hs2, q2, ro2, hby, _⟩ := bytes_in E1 h2
  obtain ⟨S, A, J, rfl, _, _, _⟩ := lim_in agg1 h1
  have ro1' := ro1.same E1 hs2
  refine ((w9 ro1' few fit ro2 hby n2).law E2 ⟨_, Try.func9, by kernel_rfl, by kernel_rfl⟩ (args := [.slice a0 len0 cap0, limV S A J, .slice a2 len2 cap2]) (.cons (q0.mono le2) (.cons (VR3.refl rfl) (.cons q2 .nil)))).mono fun e W' ⟨he, bel⟩ => ?_
  subst he
  exact ⟨_, rfl, _, _, _, [], _, [], hW', trodAll_mk1 (shut_bool Try.underlying4 _), (trodAll_cons_mk (Below.trod laidOut (by kernel_rfl) (of_decide_eq_true (by kernel_rfl)) h0 bel lt0) (trodAll_cons_mk (Below.trod laidOut (by kernel_rfl) (of_decide_eq_true (by kernel_rfl)) h1 bel lt1) (trodAll_cons_mk (Below.trod laidOut (by kernel_rfl) (of_decide_eq_true (by kernel_rfl)) h2 bel lt2) trodAll_mk0))), rfl, bel.frame _, fun h => by cases h⟩
theorem over9 : Rows.controllerBreakRow.holds Try.pinned (OpenSpec.ofChange Rows.controllerBreakSpec) :=
  OpenClaim.holds_of_wide 9 Try.f9 rfl rfl rfl rfl rfl rfl rfl ⟨rfl, rfl, rfl, rfl, rfl⟩ rfl rfl rfl rfl rfl (by kernel_rfl) Try.func9 (by kernel_rfl)
    (of_decide_eq_true (by kernel_rfl)) (by unfold Func.isWrapper; first | (rw [if_pos (by decide +kernel)]; kernel_rfl) | (rw [if_neg (by decide +kernel)]; exact ⟨rfl, rfl⟩))
    (fun os started H enc _ => lifted9 os started H enc)
/-- THE STATEMENT. -/
theorem controllerBreak : Rows.ControllerBreakSaid := over9
#print axioms controllerBreak
end Go.Proofs.Ytoinimkmoojcoaa
