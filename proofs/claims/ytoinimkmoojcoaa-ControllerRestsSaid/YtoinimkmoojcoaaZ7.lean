/- ControllerRests returns true for every input, and leaves its arguments as they were. -/
import Derived.Test.YtoinimkmoojcoaaG7
import Derived.Test.YtoinimkmoojcoaaRows
import Derived.ShutString
set_option maxRecDepth 100000
set_option maxHeartbeats 4000000
set_option linter.unusedSimpArgs false
set_option linter.unusedVariables false
namespace Go.Proofs.Ytoinimkmoojcoaa
open Go Go.Dm
attribute [local simp ↓] RunS_nil RunS_op RunS_guard RunT_nil RunT_op RunT_guard opS_call opD_call opS_move opD_move opS_assign opD_assign opS_pick opD_pick opS_nilCheck opD_nilCheck opS_fieldAddr opD_fieldAddr opS_indexAddr opD_indexAddr opS_load opD_load opS_store opD_store opS_alloc opD_alloc opS_box opD_box opS_build opD_build opS_buildSlice opD_buildSlice opS_field opD_field opS_extract opD_extract opS_makeFunc opD_makeFunc opS_slice opD_slice opS_binOp opD_binOp opS_unOp opD_unOp opS_convert opD_convert opS_index opD_index opS_len opD_len opS_append opD_append opS_max opD_max opS_min opD_min obind_some obind_none thenH_normal thenH_ret thenH_exit blockA_normal blockA_ret blockA_exit thenA_normal thenA_ret thenA_exit dstAt_mk dstL_zero dstL_succ
attribute [local simp] undef wantG_bool wantG_undef findO_some calleeS find putA ev closed3 closed2 closed1 closed0 pickA binF unF convF mxF eqNilA fastBin fastUn fastConv intBin argEnv resultsA resultsL resultA notTuple allocs eff
  loadO storeO allocO boxO sliceO indexO indexAddrA loadA storeA newA isAggT nilCheckA lenA evAll evParts aadd gen upd_at upd_upd Value.cells mxV Pairs apart readsS labOf putAt fieldA partA extractA makeFuncA evOpt boundOf sliceA Nat.add_assoc
attribute [local simp] bu107_z bu107_0_1 bu25_0_1_2 bu36_z bu36_0_1 bu36_0_1_2 bu36_0 bu38_z bu38_0_1_2_3_4 bu38_0_1_3 bu38_0_1_3_4 bu38_1_2 bu38_1_2_3 bu52_0_1_10 bu81_0_1 bs22_0_z bs22_1_0 bs22_2_0_1 bs39_1_0 bs39_7_0_1_2_3_4_5_6 bs95_4_0_1_2_3
attribute [local simp ↓] eql107 neq107 eql36 neq36 eql38 neq38 eql25 neq25
attribute [local simp] fa25_0 fa25_1 fa25_2 fa36_0 fa36_1 fa36_2 fa38_0 fa38_1 fa38_2 fa38_3 fa38_4 fa107_0 fa107_1 fa81_0 fa81_1 fa81_2 fa81_3 fa81_4 fa81_5 fa81_6 fa81_7 fa81_8 fa81_9 fa81_10 fa52_0 fa52_1 fa52_2 fa52_3 fa52_4 fa52_5 fa52_6 fa52_7 fa52_8 fa52_9 fa52_10 fa52_11 fa52_12
attribute [local simp] c22 c39 c29 z22 z39 c25 c38 c2 c3 c4 c36 c107 c30 z25 z38 z2 z3 z4 z36 z107 b38 b25 b107 h38 h25 h36 h107 g38 g25 g36 g107 Try.underlying25 Try.underlying38 Try.underlying2 Try.underlying3 Try.underlying4 Try.underlying36 Try.underlying22 Try.underlying39 Try.underlying29 Try.underlying81 Try.underlying107 Try.underlying30
attribute [local simp] mx mn
attribute [local simp] Try.underlying57 Try.underlying5 Try.underlying23 c57 c5 c23
abbrev u7_24 : List (Nat × Nat) := [(15, 16)]
theorem w7 {h : Heap} {lv ov : Value} {ms : List Mot} {S A J : Int} {ops : List Int} (hr : RO h 9 lv (motCells ms) ms.length) (few : ms.length ≤ 9223372036854775807) (fit : ∀ m ∈ ms, m.Fit) (ho : RO h 1 ov (u8s ops) ops.length) (hby : ∀ x ∈ ops, 0 ≤ x ∧ x ≤ 255) (n : Nat) :
    Dm.Spec Try.prog 7 [lv, limV S A J, ov] h n fun r _ _ => r = .bool true := by
  refine Spec.body Try.func7 rfl (by kernel_rfl) Try.ntmps7 (by rw [Try.results7]) (Nat.le_of_ble_eq_true rfl) ?_
  refine Sat.lt fun hlt => ?_
  obtain ⟨Ao, co, rfl⟩ := ho.len
  have hl1 := lt_fresh (b := ⟨[.int .i64 S, .int .i64 A, .int .i64 J], 23, 0, true⟩) hlt
  have hf1 : Fz h (upd h n ⟨[.int .i64 S, .int .i64 A, .int .i64 J], 23, 0, true⟩) := fun L b x _ => by rw [upd_at, if_neg (by have := hlt L b x; omega)]; exact x
  have hB1 : upd h n ⟨[.int .i64 S, .int .i64 A, .int .i64 J], 23, 0, true⟩ n = some ⟨[.int .i64 S, .int .i64 A, .int .i64 J], 23, 0, true⟩ := by rw [upd_at, if_pos rfl]
  refine Sat.sq ?_
  refine Sat.reg (by kernel_rfl) ?_
  simp -dsimp
  generalize upd h n ⟨[.int .i64 S, .int .i64 A, .int .i64 J], 23, 0, true⟩ = g1 at *
  refine Sat.sq ?_
  refine Sat.reg (by kernel_rfl) ?_
  simp -dsimp [hB1]
  refine (w21 (hr.fz hf1) few fit _).useH ?_
  simp -dsimp
  have hl2 := lt_fresh (b := ⟨[.int .i64 S, .int .i64 A, .int .i64 J], 25, 0, true⟩) hl1
  have hf2 : Fz h (upd g1 (n + 1) ⟨[.int .i64 S, .int .i64 A, .int .i64 J], 25, 0, true⟩) := hf1.trans fun L b x _ => by rw [upd_at, if_neg (by have := hl1 L b x; omega)]; exact x
  have hB2 : upd g1 (n + 1) ⟨[.int .i64 S, .int .i64 A, .int .i64 J], 25, 0, true⟩ (n + 1) = some ⟨[.int .i64 S, .int .i64 A, .int .i64 J], 25, 0, true⟩ := by rw [upd_at, if_pos rfl]
  generalize upd g1 (n + 1) ⟨[.int .i64 S, .int .i64 A, .int .i64 J], 25, 0, true⟩ = g2 at *
  have hr2 := hr.fz hf2
  have ho2 := ho.fz hf2
  refine Sat.join (fun T3 h3 n3 => find T3 0 = some lv ∧ find T3 2 = some (.slice Ao ops.length co) ∧ find T3 7 = some (.pointer (some ⟨n + 1, 0, none⟩)) ∧ h3 = g2 ∧ n3 = n + 2 ∧ rightM S A J ms = true ∧ ops.length ≤ 60) ?_ ?_
  · refine Sat.sq ?_
    refine Sat.reg (by kernel_rfl) ?_
    simp -dsimp
    refine w12.useH ?_
    cases hR : rightM S A J ms
    · simp -dsimp
      refine Sat.cond (t := true) (by rfl) ?_
      refine Sat.sq ?_
      refine Sat.reg (by kernel_rfl) ?_
      simp -dsimp
      refine w12.useH ?_
      simp -dsimp
      refine Sat.ret ?_
      try simp -dsimp only [thenH_ret, blockA_ret, thenA_ret]
      exact RetQ.ret (r := .bool true) (by rfl) rfl
    · by_cases h60 : ops.length ≤ 60
      · have h60' : ¬ (60 : Int) < ops.length := by omega
        simp -dsimp [h60']
        refine Sat.cond (t := false) (by rfl) ?_
        refine Sat.skip ?_
        simp -dsimp
        exact h60
      · have h60' : (60 : Int) < ops.length := by omega
        simp -dsimp [h60']
        refine Sat.cond (t := true) (by rfl) ?_
        refine Sat.sq ?_
        refine Sat.reg (by kernel_rfl) ?_
        simp -dsimp
        refine w12.useH ?_
        simp -dsimp
        refine Sat.ret ?_
        try simp -dsimp only [thenH_ret, blockA_ret, thenA_ret]
        exact RetQ.ret (r := .bool true) (by rfl) rfl
  rintro T3 h3 n3 ⟨t0, t2, t7, rfl, rfl, hR, h60⟩
  have right := right_ok hR fit
  refine Sat.sq ?_
  refine Sat.reg (by kernel_rfl) ?_
  simp -dsimp [t0, t7, hB2]
  refine (w13 (S := S) (A := A) (J := J) hr2 (by have := right.few; omega) (fun m hm => (right.rate m hm).2) _).onH ?_
  rintro r h4 n4 ⟨hn4, hk4, ⟨hbad, _⟩ | ⟨_, C, hC, hC2, rfl, mv, pl, pv, hc⟩⟩
  · exact absurd right.check hbad
  have keep0 := Keep.new right
  have hcin : CIn h4 n4 C (CS.new S A J ms) := ⟨hC2, C, mv, pl, pv, hc, hC2⟩
  have ho4 : RO h4 1 (.slice Ao ops.length co) (u8s ops) ops.length := ho2.fz fun L b x _ => by rw [hk4 L (hl2 L b x)]; exact x
  generalize CS.new S A J ms = s0 at *
  clear hc
  simp -dsimp [t0, t2]
  refine Sat.sq ?_
  refine Sat.sq ?_
  refine Sat.reg (by kernel_rfl) ?_
  simp -dsimp
  refine Sat.cond (t := false) (by rfl) ?_
  refine Sat.skip ?_
  simp -dsimp
  refine Sat.join (fun T h' n' => find T 9 = some (pC C) ∧ ∃ s, Keep S A J ms 60 s ∧ CIn h' n' C s) ?_ ?_
  · refine Sat.sq ?_
    refine Sat.reg (by kernel_rfl) ?_
    simp -dsimp [t2]
    refine Sat.block ?_
    refine Sat.loop (ι := Int × CS) (fun i T h' n' => find T 9 = some (pC C) ∧ find T 48 = some (.slice Ao ops.length co) ∧ find T 49 = some (.int .i64 ops.length) ∧ find T 50 = some (.int .i64 i.1) ∧ RO h' 1 (.slice Ao ops.length co) (u8s ops) ops.length ∧
      0 ≤ i.1 ∧ i.1 ≤ ops.length ∧ Keep S A J ms i.1.toNat i.2 ∧ CIn h' n' C i.2) (fun i => (ops.length - i.1).toNat) (0, s0) ?_ ?_
    · exact ⟨rfl, rfl, rfl, rfl, ho4, by simp, by simp, keep0, hcin⟩
    · rintro ⟨i, s⟩ T h' n' ⟨t9, t48, t49, t50, hro, i0, i1, hk, hc⟩
      simp only at t50 i0 i1 hk hc
      refine Sat.sq ?_
      refine Sat.reg (by kernel_rfl) ?_
      simp -dsimp [t49, t50]
      refine Sat.sq ?_
      refine Sat.ite rfl (fun hq => ?_) (fun hq => ?_)
      · have hq : i < ops.length := by simpa using hq
        obtain ⟨B, o, sp, b, hB, hbo, idx, ld⟩ := hro.u8 i0 hq
        have hb := hby _ (by rw [getElem!_pos ops i.toNat (by omega)]; exact List.getElem_mem _ : ops[i.toNat]! ∈ ops)
        refine Sat.skip ?_
        simp -dsimp
        refine Sat.join (fun T h'' n'' => find T 9 = some (pC C) ∧ find T 48 = some (.slice Ao ops.length co) ∧ find T 49 = some (.int .i64 ops.length) ∧ find T 50 = some (.int .i64 i) ∧ RO h'' 1 (.slice Ao ops.length co) (u8s ops) ops.length ∧
          ∃ s', Keep S A J ms (i.toNat + 1) s' ∧ CIn h'' n'' C s') ?_ ?_
        · generalize ops[i.toNat]! = x at *
          refine Sat.block ?_
          refine Sat.sq ?_
          refine Sat.reg (by kernel_rfl) ?_
          simp -dsimp [t48, t50, -indexAddrA, idx, ↓ld, hB]
          refine Sat.sq ?_
          refine Sat.reg (by kernel_rfl) ?_
          simp -dsimp
          refine Sat.block ?_
          refine Sat.sq ?_
          refine Sat.reg (by kernel_rfl) ?_
          simp -dsimp
          refine Sat.ite rfl (fun hz => ?_) (fun hz => ?_)
          · refine Sat.reg (by kernel_rfl) ?_
            simp -dsimp [t9]
            refine (hc.hold hk.run hk.begun (by have := hk.few; omega)).onH ?_
            rintro r h2 n2 ⟨rfl, hc2, hn2, hf2⟩
            simp -dsimp [t9, t48, t49, t50]
            exact ⟨hro.fz hf2, _, hk.hold, hc2⟩
          · refine Sat.sq ?_
            refine Sat.reg (by kernel_rfl) ?_
            simp -dsimp
            refine Sat.ite rfl (fun hz => ?_) (fun hz => ?_)
            · refine Sat.reg (by kernel_rfl) ?_
              simp -dsimp [t9]
              refine hc.resume.onH ?_
              rintro r h2 n2 ⟨rfl, hc2, hn2, hf2⟩
              simp -dsimp [t9, t48, t49, t50]
              exact ⟨hro.fz hf2, _, hk.resume, hc2⟩
            · refine Sat.reg (by kernel_rfl) ?_
              simp -dsimp [t9]
              refine (hc.tick hk.run (by have := hk.few; omega)).onH ?_
              rintro r h2 n2 ⟨rfl, hc2, hn2, hf2⟩
              simp -dsimp [t9, t48, t49, t50]
              exact ⟨hro.fz hf2, _, hk.tick, hc2⟩
        · rintro T2 h2 n2 ⟨t9, t48, t49, t50, hro, s', hk, hc⟩
          have W : IntKind.i64.wrap (i + 1) = i + 1 := wrap_in (by omega) (by omega)
          refine Sat.reg (by kernel_rfl) ?_
          simp -dsimp [t9, t48, t49, t50, W]
          exact ⟨i + 1, ⟨rfl, hro, by omega, by omega, s', by rw [show (i + 1).toNat = i.toNat + 1 by omega]; exact hk, hc⟩, by omega⟩
      · have hq : ¬ i < ops.length := by simpa using hq
        refine Sat.exit ?_
        simp -dsimp [t9]
        exact ⟨s, ⟨hk.run, hk.begun, hk.ms, hk.lim, hk.alive, by have := hk.few; omega⟩, hc⟩
  rintro T h' n' ⟨t9, s, hk, hc⟩
  refine Sat.sq ?_
  refine Sat.reg (by kernel_rfl) ?_
  simp -dsimp [t9]
  refine (hc.hold hk.run hk.begun (by have := hk.few; omega)).onH ?_
  rintro r h5 n5 ⟨rfl, hc5, _, _⟩
  have hk5 := hk.hold
  have hh5 := hold_held hk.alive
  generalize s.hold = s5 at *
  clear hc
  simp -dsimp
  obtain ⟨b1, b2, b3, b4, b5⟩ := goOn_held 3000 s5 hk5.run hh5
  have hrem := hk5.run.rem_le (by rw [hk5.ms]; exact right.short)
  have hmv := b5 (by omega)
  have hrest := still_rest b1 (b3.trans hk5.alive) hmv b2
  obtain ⟨sE, hsE⟩ : ∃ e, goOn 3000 s5 = e := ⟨_, rfl⟩
  obtain ⟨N, hsN⟩ : ∃ e, goOnN 3000 s5 = e := ⟨_, rfl⟩
  rw [hsE] at b1 b2 b3 hmv hrest
  rw [hsN] at b4 b5
  refine Sat.sq ?_
  refine Sat.reg (by kernel_rfl) ?_
  simp -dsimp
  refine Sat.join (fun T h' n' => find T 9 = some (pC C) ∧ find T 13 = some (.int .i64 N) ∧ CIn h' n' C sE ∧ sE.pieces.length ≤ 10000) ?_ ?_
  · refine Sat.block ?_
    refine Sat.loop (ι := Nat × CS) (fun i T h' n' => find T 9 = some (pC C) ∧ find T 13 = some (.int .i64 (3000 - i.1)) ∧ CIn h' n' C i.2 ∧ Keep S A J ms (3061 - i.1) i.2 ∧ goOn i.1 i.2 = sE ∧ 3000 - i.1 + goOnN i.1 i.2 = N ∧ i.1 ≤ 3000) (fun i => i.1) (3000, s5) ?_ ?_
    · exact ⟨by simp [t9, find], rfl, hc5, hk5, hsE, by simpa using hsN, by simp⟩
    · rintro ⟨k, s⟩ T h' n' ⟨t9, t13, hc, hk, he, hn, hle⟩
      simp only at t13 hc hk he hn hle
      refine Sat.sq ?_
      refine Sat.sq ?_
      refine Sat.reg (by kernel_rfl) ?_
      cases k with
      | zero => exfalso; simp only [goOnN] at hn; omega
      | succ k =>
        have h3000 : (3000 : Int) - ((k : Int) + 1) < 3000 := by omega
        have t13 : find T 13 = some (.int .i64 (3000 - ((k : Int) + 1))) := by rw [t13]; congr 3
        simp -dsimp [t13, t9, h3000]
        refine (hc.tick hk.run (by have := hk.few; omega)).onH ?_
        rintro r h3 n3 ⟨rfl, hc3, _, _⟩
        have hgo : goOn (k + 1) s = if s.moves then goOn k s.tick else s := rfl
        have hgn : goOnN (k + 1) s = if s.moves then goOnN k s.tick + 1 else 0 := rfl
        rw [hgo] at he
        rw [hgn] at hn
        cases hm : s.moves
        · have hst : s.tick = s := by simp [CS.tick, hm]
          rw [hm] at he hn
          simp only [Bool.false_eq_true, if_false] at he hn
          rw [hst] at hc3
          have t13' : (3000 : Int) - ((k : Int) + 1) = N := by omega
          rw [t13'] at t13
          simp -dsimp
          refine Sat.cond (t := false) (by rfl) ?_
          refine Sat.exit ?_
          simp -dsimp [t9, t13]
          rw [← he]
          exact ⟨hc3, by have := hk.few; omega⟩
        · rw [hm] at he hn
          simp only [if_true] at he hn
          have W : IntKind.i64.wrap (3000 - ((k : Int) + 1) + 1) = 3000 - (k : Int) := by rw [wrap_in (by omega) (by omega)]; omega
          simp -dsimp
          refine Sat.cond (t := true) (by rfl) ?_
          refine Sat.skip ?_
          simp -dsimp
          refine Sat.block ?_
          refine Sat.reg (by kernel_rfl) ?_
          simp -dsimp [t9, t13, W]
          refine ⟨k, ⟨rfl, s.tick, hc3, ?_, he, by omega, by omega⟩, by omega⟩
          have := hk.tick
          rw [show 3061 - (k + 1) + 1 = 3061 - k by omega] at this
          exact this
  rintro T h6 n6 ⟨t9, t13, ⟨hC6, Lp6, mv6, pl6, pv6, hc6, hL6⟩, hpc6⟩
  refine Sat.lt fun hlt6 => ?_
  refine Sat.sq ?_
  refine Sat.reg (by kernel_rfl) ?_
  simp -dsimp [t9]
  refine (w30 hc6 _).useH ?_
  rw [b2, hrest]
  simp -dsimp
  refine Sat.sq ?_
  refine Sat.reg (by kernel_rfl) ?_
  simp -dsimp [t9]
  refine (w31 hc6 b1.ok _).useH ?_
  simp -dsimp [t9]
  refine (w24 hc6 _).useH ?_
  simp -dsimp
  refine Sat.freeze n6 (b := ⟨[.int .i64 sE.pos.x, .int .i64 sE.pos.y, .int .i64 sE.pos.z], 36, 0, true⟩) (by rw [upd_at, if_pos rfl]) ?_
  rw [upd_upd]
  dsimp only
  have hB7 : upd h6 n6 ⟨[.int .i64 sE.pos.x, .int .i64 sE.pos.y, .int .i64 sE.pos.z], 36, 0, false⟩ n6 = some ⟨[.int .i64 sE.pos.x, .int .i64 sE.pos.y, .int .i64 sE.pos.z], 36, 0, false⟩ := by rw [upd_at, if_pos rfl]
  have hc7 : CIn (upd h6 n6 ⟨[.int .i64 sE.pos.x, .int .i64 sE.pos.y, .int .i64 sE.pos.z], 36, 0, false⟩) (n6 + 1) C sE := CIn.up ⟨hC6, Lp6, mv6, pl6, pv6, hc6, hL6⟩ hlt6 (fun L hL => by rw [upd_at, if_neg (by omega)]) (by omega)
  generalize upd h6 n6 ⟨[.int .i64 sE.pos.x, .int .i64 sE.pos.y, .int .i64 sE.pos.z], 36, 0, false⟩ = h7 at *
  have hbeg : sE.Begun := fun hh => by simp only [CS.resting, decide_eq_true_eq] at hrest; omega
  refine Sat.sq ?_
  refine Sat.reg (by kernel_rfl) ?_
  simp -dsimp [t9]
  refine (hc7.hold b1 hbeg (by omega)).onH ?_
  have hsh : sE.hold = { sE with held := true } := by
    simp [CS.hold, b3.trans hk5.alive, CS.brakes, hrest]
  rw [hsh]
  rintro r h8 n8 ⟨rfl, ⟨hC8, Lp8, mv8, pl8, pv8, hc8, hL8⟩, _, hf8⟩
  have hB8 := hf8 _ _ hB7 rfl
  have r8 : CS.resting { sE with held := true } = true := hrest
  have o8 : CS.Ok { sE with held := true } := b1.ok.same rfl rfl rfl ⟨rfl, rfl, rfl⟩
  obtain ⟨F1, hF1, hs1⟩ := hc8.reads (g := 22) fun h2 n2 hc => w22still hc (.inr (.inr ⟨r8, rfl⟩)) n2
  obtain ⟨F2, hF2, hs2⟩ := hc8.reads (g := 31) fun h2 n2 hc => w31 hc o8 n2
  obtain ⟨F3, hF3, hs3⟩ := hc8.reads (g := 24) fun h2 n2 hc => w24 hc n2
  have hN : (N : Int) < 3000 := by omega
  simp -dsimp
  refine Sat.sq ?_
  refine Sat.drw u7_24 mixed (by kernel_rfl) (by kernel_rfl) (by kernel_rfl) (by kernel_rfl) ?_
  simp -dsimp [t9, t13, hN]
  refine callD.reads _ F1 hs1 ?_
  simp -dsimp [t9]
  refine callD.reads _ F2 hs2 ?_
  rw [show CS.pos { sE with held := true } = sE.pos from rfl]
  simp -dsimp [t9, hB8]
  refine callD.reads _ F3 hs3 ?_
  simp -dsimp
  refine Sat.ret ?_
  try simp -dsimp only [thenH_ret, blockA_ret, thenA_ret]
  exact RetQ.ret (r := .bool true) (by rfl) rfl

end Go.Proofs.Ytoinimkmoojcoaa
/- ControllerRests returns true for every input, and leaves its arguments as they were. -/
set_option maxRecDepth 100000
set_option linter.unusedSimpArgs false
set_option linter.unusedVariables false
namespace Go.Proofs.Ytoinimkmoojcoaa
open Go Go.Dm Go.ChangeShapes Go.WideShapes Go.ChangeAt Go.RowKit
theorem own : ownKnob Try.prog.godebug = none := by kernel_rfl
theorem laidOut : laidOutB Try.prog = true := by kernel_rfl
theorem lifted7 (os : Os) (started : os.Started) (H : Type) (enc : TypeId × Value → H) :
    ReturnsInHanded {} Try.checked os 7 .any (Rows.controllerRestsSpec.pre6 enc Try.prog Try.f7 Rows.controllerRestsRow.domain false) (Rows.controllerRestsSpec.post enc Try.prog Try.f7 false true false false) := by
  refine returnsInHanded_of_change (C := Try.checked) own started (by kernel_rfl) Try.func7
    (ChangeSpec.witness6 (enc := enc) (C := Try.checked) false ⟨#[], #[.slice none 0 0, .agg #[.int .i64 0, .int .i64 0, .int .i64 0], .slice none 0 0], []⟩ 8 (by kernel_rfl) (by kernel_rfl) (by kernel_rfl) (by kernel_rfl)) ?_
  intro W base args ds gs before hval0 hW hcnd _
  have hval : ∀ (j : Nat) t v, Try.f7.params[j]? = some t → args[j]? = some v → Value.okWide Try.prog W .any base t v := hval0
  have hW' := hW
  obtain ⟨p, q, hA0, hV, rfl, hfz, hnd⟩ := hW
  have hA : DataW.TrodAll enc Try.prog W 0 (fun _ => true) true Try.f7.params.toList args.toList ds p := hA0
  rw [Try.params7] at hA hval
  obtain ⟨v0, vs0, d0, ds0, p0, q0, hargs, rfl, rfl, h0, r0⟩ := trodAll_cons hA
  obtain ⟨v1, vs1, d1, ds1, p1, q1, rfl, rfl, rfl, h1, r1⟩ := trodAll_cons r0
  obtain ⟨v2, vs2, d2, ds2, p2, q2, rfl, rfl, rfl, h2, r2⟩ := trodAll_cons r1
  obtain ⟨rfl, rfl, rfl⟩ := trodAll_nil r2
  obtain rfl : args = #[v0, v1, v2] := by cases args; simp_all
  obtain ⟨rfl, rfl⟩ := trodVars_none hV
  obtain ⟨a0, len0, cap0, rfl⟩ := okWide_slice Try.underlying22 (hval 0 22 v0 rfl rfl)
  obtain ⟨a2, len2, cap2, rfl⟩ := okWide_slice Try.underlying57 (hval 2 57 v2 rfl rfl)
  have agg1 : ∃ cs, v1 = .agg cs := okWide_arr Try.underlying23 (hval 1 23 v1 rfl rfl)
  have lt0 : ∀ x ∈ p0, x.block < W.heap.size := by obtain ⟨m, hm⟩ := h0; exact DataW.trod_lt m _ _ _ hm
  have lt1 : ∀ x ∈ p1, x.block < W.heap.size := by obtain ⟨m, hm⟩ := h1; exact DataW.trod_lt m _ _ _ hm
  have lt2 : ∀ x ∈ p2, x.block < W.heap.size := by obtain ⟨m, hm⟩ := h2; exact DataW.trod_lt m _ _ _ hm
  clear hA0 hval0
  obtain ⟨ms, lv, g1, m1, n1, E1, _, _, _, q0, ro1, fit, few⟩ := mots_in (Ent.nil W) h0
  obtain ⟨bs, ov, g2, m2, n2, E2, le2, _, hs2, q2, ro2, hby, _⟩ := bytes_in E1 h2
  obtain ⟨S, A, J, rfl, _, _, _⟩ := lim_in agg1 h1
  have ro1' := ro1.same E1 hs2
  refine ((w7 ro1' few fit ro2 hby n2).law E2 ⟨_, Try.func7, by kernel_rfl, by kernel_rfl⟩ (args := [.slice a0 len0 cap0, limV S A J, .slice a2 len2 cap2]) (.cons (q0.mono le2) (.cons (VR3.refl rfl) (.cons q2 .nil)))).mono fun e W' ⟨he, bel⟩ => ?_
  subst he
  exact ⟨_, rfl, _, _, _, [], _, [], hW', trodAll_mk1 (shut_bool Try.underlying4 _), (trodAll_cons_mk (Below.trod laidOut (by kernel_rfl) (of_decide_eq_true (by kernel_rfl)) h0 bel lt0) (trodAll_cons_mk (Below.trod laidOut (by kernel_rfl) (of_decide_eq_true (by kernel_rfl)) h1 bel lt1) (trodAll_cons_mk (Below.trod laidOut (by kernel_rfl) (of_decide_eq_true (by kernel_rfl)) h2 bel lt2) trodAll_mk0))), rfl, bel.frame _, fun h => by cases h⟩
theorem over7 : Rows.controllerRestsRow.holds Try.pinned (OpenSpec.ofChange Rows.controllerRestsSpec) :=
  OpenClaim.holds_of_wide 7 Try.f7 rfl rfl rfl rfl rfl rfl rfl ⟨rfl, rfl, rfl, rfl, rfl⟩ rfl rfl rfl rfl rfl (by kernel_rfl) Try.func7 (by kernel_rfl)
    (of_decide_eq_true (by kernel_rfl)) (by unfold Func.isWrapper; first | (rw [if_pos (by decide +kernel)]; kernel_rfl) | (rw [if_neg (by decide +kernel)]; exact ⟨rfl, rfl⟩))
    (fun os started H enc _ => lifted7 os started H enc)
/-- THE STATEMENT. -/
theorem controllerRests : Rows.ControllerRestsSaid := over7
#print axioms controllerRests
end Go.Proofs.Ytoinimkmoojcoaa
