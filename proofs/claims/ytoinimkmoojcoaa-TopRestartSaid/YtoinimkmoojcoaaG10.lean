/- The plans of layer 49 can be braked at every step, and a controller at rest stands where its last piece ends. -/
import Derived.Test.YtoinimkmoojcoaaG9
import Derived.Test.YtoinimkmoojcoaaG8
set_option linter.unusedSimpArgs false
set_option linter.unusedVariables false
namespace Go.Proofs.Ytoinimkmoojcoaa
open Go Go.Dm
/-- Each step is safe behind the one before it. -/
def Chn (S A j : Int) : Int → List Int → Prop
  | _, [] => True
  | p, x :: r => safeM S A j x (x - p) = true ∧ Chn S A j x r
theorem next_safe {S A j v a rest b : Int} (h : nextM S A j v a rest = some b) : safeM S A j (v + b) b = true := by
  unfold nextM at h
  simp only at h
  split at h
  · cases h
  · split at h
    · rename_i hf
      injection h with h
      have := bisUp_pass (p := fitsM S A j v rest) 20 _ (min (min A (a + j)) (rest - v)) hf
      rw [h] at this
      simp only [fitsM, Bool.and_eq_true] at this
      exact this.1.2
    · cases h
theorem fastL_chn {S A j : Int} : ∀ (k : Nat) (v a rest : Int) (l : List Int), fastL S A j k v a rest = some l → Chn S A j v l := by
  intro k
  induction k with
  | zero =>
    intro v a rest l h
    simp only [fastL] at h
    split at h
    · cases h
    · injection h with h; subst h; trivial
  | succ k ih =>
    intro v a rest l h
    simp only [fastL] at h
    split at h
    · cases hn : nextM S A j v a rest with
      | none => rw [hn] at h; cases h
      | some b =>
        rw [hn] at h
        simp only [Option.bind_some] at h
        cases hf : fastL S A j k (v + b) b (rest - (v + b)) with
        | none => rw [hf] at h; cases h
        | some r =>
          rw [hf] at h
          injection h with h
          subst h
          refine ⟨?_, ih _ _ _ _ hf⟩
          rw [show v + b - v = b by omega]
          exact next_safe hn
    · injection h with h; subst h; trivial
theorem fbL_le {u : Int} (hu : 0 < u) : ∀ (k : Nat) (rest : Int), ∀ x ∈ fbL u k rest, 1 ≤ x ∧ x ≤ u := by
  intro k
  induction k with
  | zero => intro rest x hx; simp [fbL] at hx
  | succ k ih =>
    intro rest x hx
    simp only [fbL] at hx
    split at hx
    · rcases List.mem_cons.1 hx with rfl | hx
      · have h1 := Int.emod_nonneg (rest - 1) (show u ≠ 0 by omega)
        have h2 := Int.emod_lt_of_pos (rest - 1) hu
        omega
      · exact ih _ x hx
    · cases hx
theorem simple_chn {S A j : Int} (hv : validM S A j = true) : ∀ (l : List Int) (p : Int), 0 ≤ p → p ≤ simpleM S A j → (∀ x ∈ l, 1 ≤ x ∧ x ≤ simpleM S A j) → Chn S A j p l := by
  intro l
  induction l with
  | nil => intro p _ _ _; trivial
  | cons x r ih =>
    intro p p0 p1 h
    have hx := h x (by simp)
    refine ⟨?_, ih x (by omega) hx.2 fun y hy => h y (by simp [hy])⟩
    have hu : simpleM S A j ≤ S ∧ simpleM S A j ≤ A ∧ simpleM S A j ≤ j / 2 := by unfold simpleM; omega
    rw [valid_iff] at hv
    rw [safe_iff]
    have hj : j / 2 ≤ j := by omega
    refine ⟨by omega, by omega, by omega, by omega, fun _ => ?_, fun _ => ?_⟩
    · rw [fad_small (by omega)]; omega
    · rw [fad_small (by omega)]; omega
theorem steps_chn {S A j m : Int} (h : (stepsM S A j m).2 = 0) : Chn S A j 0 (stepsM S A j m).1 := by
  have hs := steps_sum h
  have hv := hs.1
  have hu := simple_pos2 hv
  unfold stepsM at *
  simp only at *
  split
  · trivial
  · split
    · trivial
    · split
      · rename_i l hl
        unfold fastM at hl
        split at hl
        · cases hl
        · cases hf : fastL S A j (ticksM S A j m).1.toNat 0 0 m with
          | none => rw [hf] at hl; cases hl
          | some l' =>
            rw [hf] at hl
            simp only [Option.bind_some] at hl
            split at hl
            · injection hl with hl; subst hl; exact fastL_chn _ _ _ _ _ hf
            · cases hl
      · exact simple_chn hv _ 0 (Int.le_refl 0) (by omega) (fbL_le hu _ _)
theorem Chn.at {S A j : Int} : ∀ {l : List Int} {p : Int}, Chn S A j p l → ∀ k, k < l.length → safeM S A j l[k]! (l[k]! - if 0 < k then l[k - 1]! else p) = true
  | [], _, _, k, hk => by simp at hk
  | x :: r, p, h, 0, _ => by simpa using h.1
  | x :: r, p, h, k + 1, hk => by
    have := h.2.at k (by simpa using hk)
    rw [if_pos (by omega)]
    cases k with
    | zero => simpa using this
    | succ k => simpa using this
/-- The plan of a controller that is not braking. -/
def CS.Smooth (s : CS) : Prop := s.resting = false → s.braking = false → Chn s.lim s.A s.J 0 s.plan
theorem CS.Smooth.soft {s : CS} (h : s.Smooth) (hr : s.Run) (hg : s.Begun) : s.Soft := by
  intro hq hb
  have hcv : s.cov < s.plan.length := by
    have := hr.cov.2
    simp only [CS.resting, decide_eq_false_iff_not] at hq
    omega
  have h1 := hg hcv hb
  have hc := h hq hb
  have hv := lim_valid (r := s.cur.rate) hr.ok.lim
  change validM s.lim s.A s.J = true at hv
  have ha := hc.at (s.cov - 1).toNat (by omega)
  have hlast : s.plan[(s.cov - 1).toNat]! = s.lastStep := rfl
  have hbef : (if 0 < (s.cov - 1).toNat then s.plan[(s.cov - 1).toNat - 1]! else 0) = s.before := by
    unfold CS.before
    by_cases h2 : 1 < s.cov
    · rw [if_pos (by omega), if_pos h2, show (s.cov - 1).toNat - 1 = (s.cov - 2).toNat by omega]
    · rw [if_neg (by omega), if_neg h2]
  rw [hlast, hbef] at ha
  have hs1 := safe_iff.1 ha
  have hb1 : 0 ≤ s.before ∧ s.before ≤ s.lim := by
    rw [← hbef]
    by_cases h2 : 0 < (s.cov - 1).toNat
    · rw [if_pos h2]
      have := safe_iff.1 (hc.at ((s.cov - 1).toNat - 1) (by omega))
      exact ⟨this.1, this.2.1⟩
    · rw [if_neg h2]
      rw [valid_iff] at hv; omega
  unfold movingM
  rw [hv, within_iff.2 hb1, within_iff.2 ⟨hs1.1, hs1.2.1⟩, ha]; rfl
theorem stop_smooth {q : CS} : q.stop.Smooth := fun h => by
  obtain ⟨_, _, _, _, e5, e6, _⟩ := stop_eq q
  simp [CS.resting, e5, e6] at h
theorem CS.Smooth.tick {s : CS} (h : s.Smooth) (hr : s.Run) : s.tick.Smooth := by
  unfold CS.tick
  split
  · rename_i hm
    unfold CS.rest
    split
    · exact stop_smooth
    · rename_i hrest
      intro _ hb
      show Chn s.planned.lim s.planned.A s.planned.J 0 s.planned.plan
      have hb : s.planned.braking = false := hb
      cases hq : s.resting with
      | true =>
        have hp : s.planned = { s with plan := s.steps.1, cov := 0, braking := false } := by simp [CS.planned, hq]
        have h2 : s.steps.2 = 0 := by
          simp only [CS.moves, Bool.and_eq_true, Bool.or_eq_true, Bool.not_eq_true', hq, decide_eq_true_eq] at hm
          rcases hm.2 with h | h
          · cases h
          · exact h.1.2
        rw [hp]
        exact steps_chn h2
      | false =>
        have hp : s.planned = s := by simp [CS.planned, hq]
        rw [hp] at hb ⊢
        exact h hq hb
  · exact h
theorem CS.Smooth.hold {s : CS} (h : s.Smooth) : s.hold.Smooth := by
  unfold CS.hold
  split
  · exact h
  · split
    · split
      · exact stop_smooth
      · intro _ hb; cases hb
    · exact h
theorem brk_rest {s : CS} (hb : s.broken = false) : s.brk.resting = true := by
  simp [CS.brk, hb, CS.resting]
theorem CS.Smooth.brk {s : CS} (h : s.Smooth) : s.brk.Smooth := by
  cases hb : s.broken with
  | true => rw [show s.brk = s by simp [CS.brk, hb]]; exact h
  | false => intro hx; rw [brk_rest hb] at hx; cases hx
theorem CS.Smooth.new {S A J : Int} {ms : List Mot} : (CS.new S A J ms).Smooth := fun h => by cases h
/-! ### Standing still -/
theorem Acc.end_ {ms : List Mot} {i : Nat} {p : P3} {ps : List Mot} (h : Acc ms i p ps) (hi : i = ms.length) : (ms.length = 0 → p = ⟨0, 0, 0⟩) ∧ (0 < ms.length → p = (ms[ms.length - 1]!).to) := by
  cases h with
  | start =>
    refine ⟨fun h => ?_, fun h => by omega⟩
    unfold firstFr; rw [if_neg (by omega)]
  | next h1 _ =>
    refine ⟨fun h => by omega, fun _ => ?_⟩
    rw [← hi]; simp
  | step h1 => omega
theorem CS.Path.still {s : CS} (h : s.Path) (ho : s.Ok) (hz : s.index < s.ms.length → s.part = 0) : s.last = s.pos := by
  by_cases hi : s.index < s.ms.length
  · obtain ⟨p, p0, p1, pe⟩ := h.at0 hi
    rw [CS.pos_at hi ho.idx.1, hz hi, pe, show p = 0 by have := hz hi; omega]
  · have hie : s.index = s.ms.length := by have := ho.idx.2; omega
    have := h.acc.end_ (by omega)
    unfold CS.pos
    by_cases h0 : s.ms.length = 0
    · rw [if_pos h0]; exact this.1 h0
    · rw [if_neg h0, if_pos hie, this.2 (by omega), hie, show ((s.ms.length : Int) - 1).toNat = s.ms.length - 1 by omega]
theorem stop_still {s : CS} (h : s.Ok) (hi : s.index < s.ms.length) (hp : s.stop.Path) : s.stop.last = s.stop.pos := by
  have hrun := CS.Run.stop h hi
  by_cases hz : s.part = s.cur.len
  · refine hp.still hrun.ok fun _ => ?_
    rw [go_end h hi hz]; rfl
  · rw [go_rest h hi hz]; rfl
theorem CS.Still.tick {s : CS} (h : s.Still) (hr : s.Run) (hp : s.Path) : s.tick.Still := by
  have ht := hp.tick hr
  revert ht
  unfold CS.tick
  split
  · rename_i hm
    obtain ⟨_, hi, hr2, hc⟩ := hr.mv hm
    have hg := hr2.go hc
    obtain ⟨c1, _, _, _, c5, _⟩ := planned_eq s
    unfold CS.rest
    split
    · intro ht _
      exact stop_still hg.ok (by show s.planned.index < (s.planned.ms.length : Int); rw [c1, c5]; exact hi) ht
    · rename_i hrest
      intro _ hx; exact absurd hx hrest
  · intro _; exact h
theorem CS.Still.hold {s : CS} (h : s.Still) (hr : s.Run) (hp : s.Path) : s.hold.Still := by
  have ht := hp.hold hr
  revert ht
  unfold CS.hold
  split
  · intro _; exact h
  · split
    · rename_i hb
      have h2 := hr.braked hb
      split
      · have hcv : s.cov < s.plan.length := by
          simp only [CS.brakes, Bool.and_eq_true, Bool.not_eq_true', Bool.or_eq_false_iff, decide_eq_true_eq] at hb
          have := hr.cov.2
          have h1 := hb.1.1.1.1
          simp only [CS.resting, decide_eq_false_iff_not] at h1
          omega
        intro ht _
        exact stop_still (s := s.braked) h2.ok (hr.sum hcv).1 ht
      · rename_i hne
        intro _ hx
        have hx : decide ((0 : Int) = s.stopping.1.length) = true := hx
        simp only [decide_eq_true_eq] at hx
        omega
    · intro _; exact h
theorem CS.Still.brk {s : CS} (h : s.Still) : s.brk.Still := by
  cases hb : s.broken with
  | true => rw [show s.brk = s by simp [CS.brk, hb]]; exact h
  | false =>
    intro _
    obtain ⟨e1, _, _, _, e5, e6, _⟩ := push_eq s
    have hbrk : s.brk = { s.push.toPos with plan := [], cov := 0, braking := false, held := false, broken := true } := by simp [CS.brk, hb]
    rw [hbrk]; rfl
theorem CS.Still.new {S A J : Int} {ms : List Mot} (h : Right S A J ms) (hc : Conn ms) : (CS.new S A J ms).Still := fun _ =>
  (CS.Path.new h hc).still (CS.Run.new h.check h.rate).ok fun _ => rfl
/-- What holds between the words of the statement on events. -/
structure Ev (S A J : Int) (ms : List Mot) (k : Nat) (s : CS) : Prop where
  run : s.Run
  begun : s.Begun
  ms : s.ms = ms
  few : s.pieces.length ≤ k
  smooth : s.Smooth
  still : s.Still
  alive : s.broken = false → s.Path
  dead : s.broken = true → s.resting = true
theorem dead_tick {s : CS} (h : s.broken = true) : s.tick = s := by simp [CS.tick, CS.moves, h]
theorem Ev.tick {S A J : Int} {ms : List Mot} {k : Nat} {s : CS} (h : Ev S A J ms k s) : Ev S A J ms (k + 1) s.tick := by
  obtain ⟨e1, e2, e3, e4, e5, e6, e7⟩ := tick_eq s
  cases hb : s.broken with
  | true => rw [dead_tick hb]; exact ⟨h.run, h.begun, h.ms, by have := h.few; omega, h.smooth, h.still, h.alive, h.dead⟩
  | false => exact ⟨h.run.tick, h.begun.tick h.run, e1.trans h.ms, by have := h.few; omega, h.smooth.tick h.run, h.still.tick h.run (h.alive hb), fun _ => (h.alive hb).tick h.run, fun hx => by rw [e6, hb] at hx; cases hx⟩
theorem Ev.hold {S A J : Int} {ms : List Mot} {k : Nat} {s : CS} (h : Ev S A J ms k s) : Ev S A J ms (k + 1) s.hold := by
  obtain ⟨e1, e2, e3, e4, e5, e6⟩ := hold_eq s
  cases hb : s.broken with
  | true => rw [show s.hold = s by simp [CS.hold, hb]]; exact ⟨h.run, h.begun, h.ms, by have := h.few; omega, h.smooth, h.still, h.alive, h.dead⟩
  | false => exact ⟨h.run.hold, h.begun.hold, e1.trans h.ms, by have := h.few; omega, h.smooth.hold, h.still.hold h.run (h.alive hb), fun _ => (h.alive hb).hold h.run, fun hx => by rw [e5, hb] at hx; cases hx⟩
theorem Ev.resume {S A J : Int} {ms : List Mot} {k : Nat} {s : CS} (h : Ev S A J ms k s) : Ev S A J ms (k + 1) { s with held := false } :=
  ⟨h.run.held false, h.begun, h.ms, by have := h.few; show s.pieces.length ≤ _; omega, h.smooth, h.still, fun hb => (h.alive hb).held false, h.dead⟩
theorem Ev.brk {S A J : Int} {ms : List Mot} {k : Nat} {s : CS} (h : Ev S A J ms k s) : Ev S A J ms (k + 1) s.brk := by
  obtain ⟨e1, e2, e3, e4, e5, e6, e7, e8⟩ := brk_eq s
  refine ⟨h.run.brk, ?_, e1.trans h.ms, by have := h.few; omega, h.smooth.brk, h.still.brk, fun hx => (by rw [e7] at hx; cases hx), fun _ => ?_⟩
  · cases hb : s.broken with
    | true => rw [show s.brk = s by simp [CS.brk, hb]]; exact h.begun
    | false => exact .still (by simp [CS.brk, hb]) (by simp [CS.brk, hb])
  · cases hb : s.broken with
    | true => rw [show s.brk = s by simp [CS.brk, hb]]; exact h.dead hb
    | false => exact brk_rest hb
theorem Ev.new {S A J : Int} {ms : List Mot} (h : Right S A J ms) (hc : Conn ms) : Ev S A J ms 0 (CS.new S A J ms) :=
  ⟨CS.Run.new h.check h.rate, .still rfl rfl, rfl, Nat.le_refl 0, .new, .new h hc, fun _ => .new h hc, fun h => by cases h⟩
theorem Ev.more {S A J : Int} {ms : List Mot} {k k' : Nat} {s : CS} (h : Ev S A J ms k s) (hk : k ≤ k') : Ev S A J ms k' s := ⟨h.run, h.begun, h.ms, by have := h.few; omega, h.smooth, h.still, h.alive, h.dead⟩
end Go.Proofs.Ytoinimkmoojcoaa
/- Walks, part T1. -/
set_option maxRecDepth 100000
set_option maxHeartbeats 4000000
set_option linter.unusedSimpArgs false
set_option linter.unusedVariables false
namespace Go.Proofs.Ytoinimkmoojcoaa
open Go Go.Dm
attribute [local simp ↓] RunS_nil RunS_op RunS_guard RunT_nil RunT_op RunT_guard opS_call opD_call opS_move opD_move opS_assign opD_assign opS_pick opD_pick opS_nilCheck opD_nilCheck opS_fieldAddr opD_fieldAddr opS_indexAddr opD_indexAddr opS_load opD_load opS_store opD_store opS_alloc opD_alloc opS_box opD_box opS_build opD_build opS_buildSlice opD_buildSlice opS_field opD_field opS_extract opD_extract opS_makeFunc opD_makeFunc opS_slice opD_slice opS_binOp opD_binOp opS_unOp opD_unOp opS_convert opD_convert opS_index opD_index opS_len opD_len opS_append opD_append opS_max opD_max opS_min opD_min obind_some obind_none thenH_normal thenH_ret thenH_exit blockA_normal blockA_ret blockA_exit thenA_normal thenA_ret thenA_exit dstAt_mk dstL_zero dstL_succ
attribute [local simp] undef wantG_bool wantG_undef findO_some calleeS find putA ev closed3 closed2 closed1 closed0 pickA binF unF convF mxF eqNilA fastBin fastUn fastConv intBin argEnv resultsA resultsL resultA notTuple allocs eff
  loadO storeO allocO boxO sliceO indexO indexAddrA loadA storeA newA isAggT nilCheckA lenA evAll evParts aadd gen upd_at upd_upd Value.cells mxV Pairs apart readsS labOf putAt fieldA partA extractA makeFuncA evOpt boundOf sliceA Nat.add_assoc
attribute [local simp] bu107_z bu107_0_1 bu25_0_1_2 bu36_z bu36_0_1 bu36_0_1_2 bu36_0 bu38_z bu38_0_1_2_3_4 bu38_0_1_3 bu38_0_1_3_4 bu38_1_2 bu38_1_2_3 bu52_0_1_10 bu81_0_1 bs22_0_z bs22_1_0 bs22_2_0_1 bs39_1_0 bs39_7_0_1_2_3_4_5_6 bs95_4_0_1_2_3
attribute [local simp ↓] eql107 neq107 eql36 neq36 eql38 neq38 eql25 neq25
attribute [local simp] fa25_0 fa25_1 fa25_2 fa36_0 fa36_1 fa36_2 fa38_0 fa38_1 fa38_2 fa38_3 fa38_4 fa107_0 fa107_1 fa81_0 fa81_1 fa81_2 fa81_3 fa81_4 fa81_5 fa81_6 fa81_7 fa81_8 fa81_9 fa81_10 fa52_0 fa52_1 fa52_2 fa52_3 fa52_4 fa52_5 fa52_6 fa52_7 fa52_8 fa52_9 fa52_10 fa52_11 fa52_12
attribute [local simp] c22 c39 c29 z22 z39 c25 c38 c2 c3 c4 c36 c107 c30 z25 z38 z2 z3 z4 z36 z107 b38 b25 b107 h38 h25 h36 h107 g38 g25 g36 g107 Try.underlying25 Try.underlying38 Try.underlying2 Try.underlying3 Try.underlying4 Try.underlying36 Try.underlying22 Try.underlying39 Try.underlying29 Try.underlying81 Try.underlying107 Try.underlying30
attribute [local simp] mx mn
abbrev u39_6 : List (Nat × Nat) := []
theorem w39 {h : Heap} {av bv : Value} {a b : List Mot} (ha : RO h 9 av (motCells a) a.length) (hb : RO h 9 bv (motCells b) b.length) (few : a.length ≤ 1000000000000) (n : Nat) :
    Dm.Spec Try.prog 39 [av, bv] h n fun r' h' n' => r' = .bool (decide (a = b)) ∧ h' = h ∧ n' = n := by
  refine pureAt Try.func39 rfl (by kernel_rfl) Try.ntmps39 (by rw [Try.results39]) (Nat.le_of_ble_eq_true rfl) ?_
  obtain ⟨A1, c1, rfl⟩ := ha.len
  obtain ⟨A2, c2, rfl⟩ := hb.len
  refine Sat.sq ?_
  refine Sat.reg (by kernel_rfl) ?_
  simp -dsimp
  refine Sat.sq ?_
  refine Sat.sq ?_
  refine Sat.reg (by kernel_rfl) ?_
  simp -dsimp
  refine Sat.ite rfl (fun hc => ?_) (fun hc => ?_)
  · have hc : ¬ a.length = b.length := by
      have : ¬ (a.length : Int) = b.length := by simpa using hc
      omega
    refine Sat.sq ?_
    refine Sat.reg (by kernel_rfl) ?_
    simp -dsimp
    refine Sat.ret ?_
    try simp -dsimp only [thenH_ret, blockA_ret, thenA_ret]
    refine PureQ.ret (r := .bool (decide (a = b))) (by rfl) keep_refl ?_
    have : ¬ a = b := fun e => hc (by rw [e])
    simp [this]
  have hl : a.length = b.length := by
    have : (a.length : Int) = b.length := by simpa using hc
    omega
  refine Sat.skip ?_
  simp -dsimp
  refine Sat.sq ?_
  refine Sat.sq ?_
  refine Sat.reg (by kernel_rfl) ?_
  simp -dsimp
  refine Sat.block ?_
  refine Sat.loop (ι := Int) (fun i T h' n' => find T 0 = some (.slice A1 a.length c1) ∧ find T 1 = some (.slice A2 b.length c2) ∧ find T 5 = some (.int .i64 i) ∧ h' = h ∧ n' = n ∧ 0 ≤ i ∧ i ≤ a.length ∧ ∀ j : Int, 0 ≤ j → j < i → a[j.toNat]! = b[j.toNat]!) (fun i => (a.length - i).toNat) 0 ?_ ?_
  · exact ⟨rfl, rfl, rfl, rfl, rfl, by omega, by omega, fun j h1 h2 => by omega⟩
  · rintro i T h' n' ⟨t0, t1, t5, rfl, rfl, i0, i1, hi⟩
    refine Sat.sq ?_
    refine Sat.sq ?_
    refine Sat.reg (by kernel_rfl) ?_
    simp -dsimp [t0, t5]
    refine Sat.ite rfl (fun hc => ?_) (fun hc => ?_)
    · have hc : i < a.length := by simpa using hc
      obtain ⟨B, o, sp, b1, hB, hbo, am⟩ := ha.mot i0 hc
      obtain ⟨B2, o2, sp2, b2, hB2, hbo2, am2⟩ := hb.mot i0 (by omega)
      have hne : ¬ a[i.toNat]! = b[i.toNat]! → ¬ a = b := fun hn e => hn (by rw [e])
      have hstep : a[i.toNat]! = b[i.toNat]! → ∀ j : Int, 0 ≤ j → j < i + 1 → a[j.toNat]! = b[j.toNat]! := by
        intro e j h1 h2
        by_cases hj : j = i
        · rw [hj]; exact e
        · exact hi j h1 (by omega)
      generalize a[i.toNat]! = x at *
      generalize b[i.toNat]! = y at *
      refine Sat.skip ?_
      simp -dsimp
      refine Sat.sq ?_
      refine Sat.block ?_
      refine Sat.sq ?_
      refine Sat.drw u39_6 mixed (by kernel_rfl) (by kernel_rfl) (by kernel_rfl) (by kernel_rfl) ?_
      simp -dsimp [t0, t1, t5, -indexAddrA, am.idx, ↓am.l38, hB, am2.idx, ↓am2.l38, hB2]
      refine Sat.ite rfl (fun hc => ?_) (fun hc => ?_)
      · have hc : ¬ x = y := by
          simp only [Bool.or_eq_true, Bool.not_eq_true', decide_eq_false_iff_not] at hc
          rw [Mot.eq_iff]; omega
        refine Sat.sq ?_
        refine Sat.reg (by kernel_rfl) ?_
        simp -dsimp
        refine Sat.ret ?_
        try simp -dsimp only [thenH_ret, blockA_ret, thenA_ret]
        refine PureQ.ret (r := .bool (decide (a = b))) (by rfl) keep_refl ?_
        simp [hne hc]
      · have hc : x = y := by
          simp only [Bool.or_eq_false_iff, Bool.not_eq_false', decide_eq_true_eq] at hc
          rw [Mot.eq_iff]; omega
        have W : IntKind.i64.wrap (i + 1) = i + 1 := wrap_in (by omega) (by omega)
        refine Sat.skip ?_
        simp -dsimp
        refine Sat.reg (by kernel_rfl) ?_
        simp -dsimp [t0, t1, t5, W]
        exact ⟨i + 1, ⟨rfl, by omega, by omega, by simpa using hstep hc⟩, by omega⟩
    · have hc : ¬ i < a.length := by simpa using hc
      have e : a = b := list_eq_of hl fun j h1 h2 => hi j h1 (by omega)
      refine Sat.exit ?_
      simp -dsimp
      refine Sat.sq ?_
      refine Sat.reg (by kernel_rfl) ?_
      simp -dsimp
      refine Sat.ret ?_
      try simp -dsimp only [thenH_ret, blockA_ret, thenA_ret]
      refine PureQ.ret (r := .bool (decide (a = b))) (by rfl) keep_refl ?_
      simp [e]
def fromM (p : P3) (ms : List Mot) : P3 := if ms.length = 0 then p else (ms[0]!).fr
def endM (p : P3) (ms : List Mot) : P3 := if ms.length = 0 then p else (ms[ms.length - 1]!).to
theorem w37 {h : Heap} {lv : Value} {ms : List Mot} (hr : RO h 9 lv (motCells ms) ms.length) (p : P3) (n : Nat) :
    Dm.Spec Try.prog 37 [lv, p.v] h n fun r' h' n' => r' = (fromM p ms).v ∧ h' = h ∧ n' = n := by
  refine pureAt Try.func37 rfl (by kernel_rfl) Try.ntmps37 (by rw [Try.results37]) (Nat.le_of_ble_eq_true rfl) ?_
  refine Sat.lt fun hlt => ?_
  obtain ⟨A1, c1, rfl⟩ := hr.len
  refine Sat.sq ?_
  refine Sat.reg (by kernel_rfl) ?_
  simp -dsimp
  refine Sat.sq ?_
  refine Sat.sq ?_
  refine Sat.reg (by kernel_rfl) ?_
  simp -dsimp
  refine Sat.ite rfl (fun hc => ?_) (fun hc => ?_)
  · have hc : ms.length = 0 := by simpa using hc
    refine Sat.sq ?_
    refine Sat.reg (by kernel_rfl) ?_
    simp -dsimp
    refine Sat.ret ?_
    try simp -dsimp only [thenH_ret, blockA_ret, thenA_ret]
    refine PureQ.ret rfl (keep_upd (by omega) (keep_upd (by omega) keep_refl)) ?_
    simp -dsimp [fromM, hc]
  · have hc : ¬ ms.length = 0 := by simpa using hc
    obtain ⟨B, o, sp, b, hB, hbo, am⟩ := hr.mot (i := 0) (by omega) (by omega)
    have nB := ne2 (hlt B _ hB)
    have nB1 := ne2 (show B < n + 1 by have := hlt B _ hB; omega)
    rw [show ((0 : Int).toNat) = 0 from rfl] at am
    refine Sat.skip ?_
    simp -dsimp
    have e : fromM p ms = (ms[0]!).fr := by rw [fromM, if_neg hc]
    rw [e]
    generalize ms[0]! = m at *
    refine Sat.sq ?_
    refine Sat.reg (by kernel_rfl) ?_
    simp -dsimp [-indexAddrA, am.idx, ↓am.l36, hB, nB, nB1]
    refine Sat.ret ?_
    try simp -dsimp only [thenH_ret, blockA_ret, thenA_ret]
    refine PureQ.ret rfl (keep_upd (by omega) (keep_upd (by omega) keep_refl)) ?_
    simp -dsimp [Mot.fr]
theorem w38 {h : Heap} {lv : Value} {ms : List Mot} (hr : RO h 9 lv (motCells ms) ms.length) (few : ms.length ≤ 1000000000000) (p : P3) (n : Nat) :
    Dm.Spec Try.prog 38 [p.v, lv] h n fun r' h' n' => r' = (endM p ms).v ∧ h' = h ∧ n' = n := by
  refine pureAt Try.func38 rfl (by kernel_rfl) Try.ntmps38 (by rw [Try.results38]) (Nat.le_of_ble_eq_true rfl) ?_
  refine Sat.lt fun hlt => ?_
  obtain ⟨A1, c1, rfl⟩ := hr.len
  refine Sat.sq ?_
  refine Sat.reg (by kernel_rfl) ?_
  simp -dsimp
  refine Sat.sq ?_
  refine Sat.sq ?_
  refine Sat.reg (by kernel_rfl) ?_
  simp -dsimp
  refine Sat.ite rfl (fun hc => ?_) (fun hc => ?_)
  · have hc : ms.length = 0 := by simpa using hc
    refine Sat.sq ?_
    refine Sat.reg (by kernel_rfl) ?_
    simp -dsimp
    refine Sat.ret ?_
    try simp -dsimp only [thenH_ret, blockA_ret, thenA_ret]
    refine PureQ.ret rfl (keep_upd (by omega) (keep_upd (by omega) keep_refl)) ?_
    simp -dsimp [endM, hc]
  · have hc : ¬ ms.length = 0 := by simpa using hc
    obtain ⟨B, o, sp, b, hB, hbo, am⟩ := hr.mot (i := (ms.length : Int) - 1) (by omega) (by omega)
    have nB := ne2 (hlt B _ hB)
    have nB1 := ne2 (show B < n + 1 by have := hlt B _ hB; omega)
    rw [show (((ms.length : Int) - 1).toNat) = ms.length - 1 by omega] at am
    have W : IntKind.i64.wrap ((ms.length : Int) - 1) = (ms.length : Int) - 1 := wrap_in (by omega) (by omega)
    refine Sat.skip ?_
    simp -dsimp
    have e : endM p ms = (ms[ms.length - 1]!).to := by rw [endM, if_neg hc]
    rw [e]
    generalize ms[ms.length - 1]! = m at *
    refine Sat.sq ?_
    refine Sat.reg (by kernel_rfl) ?_
    simp -dsimp [W, -indexAddrA, am.idx, ↓am.l36', hB, nB, nB1]
    refine Sat.ret ?_
    try simp -dsimp only [thenH_ret, blockA_ret, thenA_ret]
    refine PureQ.ret rfl (keep_upd (by omega) (keep_upd (by omega) keep_refl)) ?_
    simp -dsimp [Mot.to]

end Go.Proofs.Ytoinimkmoojcoaa
/- Walks, part T2. -/
set_option maxRecDepth 100000
set_option maxHeartbeats 4000000
set_option linter.unusedSimpArgs false
set_option linter.unusedVariables false
namespace Go.Proofs.Ytoinimkmoojcoaa
open Go Go.Dm
attribute [local simp ↓] RunS_nil RunS_op RunS_guard RunT_nil RunT_op RunT_guard opS_call opD_call opS_move opD_move opS_assign opD_assign opS_pick opD_pick opS_nilCheck opD_nilCheck opS_fieldAddr opD_fieldAddr opS_indexAddr opD_indexAddr opS_load opD_load opS_store opD_store opS_alloc opD_alloc opS_box opD_box opS_build opD_build opS_buildSlice opD_buildSlice opS_field opD_field opS_extract opD_extract opS_makeFunc opD_makeFunc opS_slice opD_slice opS_binOp opD_binOp opS_unOp opD_unOp opS_convert opD_convert opS_index opD_index opS_len opD_len opS_append opD_append opS_max opD_max opS_min opD_min obind_some obind_none thenH_normal thenH_ret thenH_exit blockA_normal blockA_ret blockA_exit thenA_normal thenA_ret thenA_exit dstAt_mk dstL_zero dstL_succ
attribute [local simp] undef wantG_bool wantG_undef findO_some calleeS find putA ev closed3 closed2 closed1 closed0 pickA binF unF convF mxF eqNilA fastBin fastUn fastConv intBin argEnv resultsA resultsL resultA notTuple allocs eff
  loadO storeO allocO boxO sliceO indexO indexAddrA loadA storeA newA isAggT nilCheckA lenA evAll evParts aadd gen upd_at upd_upd Value.cells mxV Pairs apart readsS labOf putAt fieldA partA extractA makeFuncA evOpt boundOf sliceA Nat.add_assoc
attribute [local simp] bu107_z bu107_0_1 bu25_0_1_2 bu36_z bu36_0_1 bu36_0_1_2 bu36_0 bu38_z bu38_0_1_2_3_4 bu38_0_1_3 bu38_0_1_3_4 bu38_1_2 bu38_1_2_3 bu52_0_1_10 bu81_0_1 bs22_0_z bs22_1_0 bs22_2_0_1 bs39_1_0 bs39_7_0_1_2_3_4_5_6 bs95_4_0_1_2_3
attribute [local simp ↓] eql107 neq107 eql36 neq36 eql38 neq38 eql25 neq25
attribute [local simp] fa25_0 fa25_1 fa25_2 fa36_0 fa36_1 fa36_2 fa38_0 fa38_1 fa38_2 fa38_3 fa38_4 fa107_0 fa107_1 fa81_0 fa81_1 fa81_2 fa81_3 fa81_4 fa81_5 fa81_6 fa81_7 fa81_8 fa81_9 fa81_10 fa52_0 fa52_1 fa52_2 fa52_3 fa52_4 fa52_5 fa52_6 fa52_7 fa52_8 fa52_9 fa52_10 fa52_11 fa52_12
attribute [local simp] c22 c39 c29 z22 z39 c25 c38 c2 c3 c4 c36 c107 c30 z25 z38 z2 z3 z4 z36 z107 b38 b25 b107 h38 h25 h36 h107 g38 g25 g36 g107 Try.underlying25 Try.underlying38 Try.underlying2 Try.underlying3 Try.underlying4 Try.underlying36 Try.underlying22 Try.underlying39 Try.underlying29 Try.underlying81 Try.underlying107 Try.underlying30
attribute [local simp] mx mn
theorem RO.upto {h : Heap} {v : Value} {l : List Mot} (hr : RO h 9 v (motCells l) l.length) {i : Int} (h0 : 0 ≤ i) (h1 : i ≤ l.length) :
    ∃ sv, sliceA Try.prog 22 v none (some (.int .i64 i)) = some sv ∧ RO h 9 sv (motCells (l.take i.toNat)) (l.take i.toNat).length := by
  obtain ⟨hl, A, c, rfl, hn, hp⟩ := hr
  obtain ⟨j, rfl⟩ : ∃ j : Nat, i = j := ⟨i.toNat, by omega⟩
  have hj : j ≤ l.length := by omega
  simp only [Int.toNat_natCast]
  unfold sliceA
  simp only [Try.underlying22, boundOf, c38]
  rw [if_pos ⟨by omega, by omega, by omega, by omega⟩]
  by_cases he : j = 0
  · subst he
    rw [if_pos (by rfl)]
    cases A with
    | none => exact ⟨_, rfl, RO.nil⟩
    | some a => exact ⟨_, rfl, rfl, _, _, rfl, fun h => (nomatch h), fun h => absurd h (by simp)⟩
  · rw [if_neg (by simp; omega)]
    obtain ⟨a, b, rfl, x2, x3, x4, x5, x6⟩ := hp (by omega)
    have hml : (l.take j).length = j := by simp; omega
    have hmt : motCells (l.take j) = (motCells l).take (j * 9) := by
      have e1 : motCells l = motCells (l.take j) ++ motCells (l.drop j) := by
        unfold motCells
        rw [← List.flatMap_append, List.take_append_drop]
      have e2 : (motCells (l.take j)).length = j * 9 := by rw [motCells_length, hml]
      rw [e1, ← e2, List.take_left']
      rfl
    have key : ∀ c2, RO h 9 (.slice (some (aadd a (0 * 9))) (l.take j).length c2) (motCells (l.take j)) (l.take j).length := by
      intro c2
      refine ⟨by rw [motCells_length], some (aadd a (0 * 9)), c2, rfl, fun h => (nomatch h), fun _ => ⟨aadd a (0 * 9), b, rfl, x2, x3, x4, ?_, ?_⟩⟩
      · rw [hml]; simp [aadd]; omega
      · rw [hmt, ← x6, hml]
        simp only [aadd, Nat.zero_mul, Nat.add_zero]
        rw [List.take_take]
        congr 1
        omega
    refine ⟨_, rfl, ?_⟩
    have := key
    simp only [hml] at this ⊢
    exact this _
theorem w38r {h : Heap} {lv : Value} {ms : List Mot} (hr : RO h 9 lv (motCells ms) ms.length) (few : ms.length ≤ 1000000000000) (p : P3) : Reads 38 [p.v, lv] h (endM p ms).v := by
  obtain ⟨F, f1, f2⟩ := hr.agree
  exact ⟨F, f1, fun h2 n2 hh => w38 (f2 h2 hh) few p n2⟩
def linkM (p : P3) (ms : List Mot) : Bool := decide (∀ i, i < ms.length → (ms[i]!).fr = endM p (ms.take i))
abbrev u36_4 : List (Nat × Nat) := [(4, 9)]
theorem w36 {h : Heap} {lv : Value} {ms : List Mot} (hr : RO h 9 lv (motCells ms) ms.length) (few : ms.length ≤ 1000000000000) (p : P3) (n : Nat) :
    Dm.Spec Try.prog 36 [p.v, lv] h n fun r' h' n' => r' = .bool (linkM p ms) ∧ h' = h ∧ n' = n := by
  refine pureAt Try.func36 rfl (by kernel_rfl) Try.ntmps36 (by rw [Try.results36]) (Nat.le_of_ble_eq_true rfl) ?_
  refine Sat.lt fun hlt => ?_
  obtain ⟨A1, c1, rfl⟩ := hr.len
  refine Sat.sq ?_
  refine Sat.reg (by kernel_rfl) ?_
  simp -dsimp
  have hB1 : upd h n ⟨[.int .i64 p.x, .int .i64 p.y, .int .i64 p.z], 36, 0, true⟩ n = some ⟨[.int .i64 p.x, .int .i64 p.y, .int .i64 p.z], 36, 0, true⟩ := by rw [upd_at, if_pos rfl]
  have hk1 : ∀ L, L < n → upd h n ⟨[.int .i64 p.x, .int .i64 p.y, .int .i64 p.z], 36, 0, true⟩ L = h L := keep_upd (by omega) keep_refl
  have hr1 : RO (upd h n ⟨[.int .i64 p.x, .int .i64 p.y, .int .i64 p.z], 36, 0, true⟩) 9 (.slice A1 ms.length c1) (motCells ms) ms.length := hr.fz fun L b x _ => by rw [hk1 L (hlt L b x)]; exact x
  generalize upd h n _ = g1 at *
  refine Sat.join (fun T h' n' => h' = g1 ∧ n' = n + 1 ∧ ∀ i, i < ms.length → (ms[i]!).fr = endM p (ms.take i)) ?_ ?_
  rotate_left
  · rintro T h' n' ⟨rfl, rfl, hall⟩
    refine Sat.sq ?_
    refine Sat.reg (by kernel_rfl) ?_
    simp -dsimp
    refine Sat.ret ?_
    try simp -dsimp only [thenH_ret, blockA_ret, thenA_ret]
    refine PureQ.ret (r := .bool (linkM p ms)) (by rfl) hk1 ?_
    rw [linkM, decide_eq_true hall]; rfl
  refine Sat.sq ?_
  refine Sat.reg (by kernel_rfl) ?_
  simp -dsimp
  refine Sat.block ?_
  refine Sat.loop (ι := Int) (fun i T h' n' => find T 1 = some (.slice A1 ms.length c1) ∧ find T 2 = some (.pointer (some ⟨n, 0, none⟩)) ∧ find T 5 = some (.int .i64 i) ∧ h' = g1 ∧ n' = n + 1 ∧ 0 ≤ i ∧ i ≤ ms.length ∧ ∀ j : Nat, j < i → (ms[j]!).fr = endM p (ms.take j)) (fun i => (ms.length - i).toNat) 0 ?_ ?_
  · exact ⟨rfl, rfl, rfl, rfl, rfl, by omega, by omega, fun j h1 => by omega⟩
  rintro i T h' n' ⟨t1, t2, t5, rfl, rfl, i0, i1, hall⟩
  refine Sat.sq ?_
  refine Sat.sq ?_
  refine Sat.reg (by kernel_rfl) ?_
  simp -dsimp [t1, t5]
  refine Sat.ite rfl (fun hc => ?_) (fun hc => ?_)
  rotate_left
  · have hc : ¬ i < ms.length := by simpa using hc
    refine Sat.exit ?_
    simp -dsimp
    intro j hj
    have := hall j (by omega)
    simpa using this
  have hc : i < ms.length := by simpa using hc
  obtain ⟨B, o, sp, b1, hB, hbo, am⟩ := hr1.mot i0 hc
  obtain ⟨sv, hsv, hrs⟩ := hr1.upto i0 i1
  have htl : (ms.take i.toNat).length ≤ 1000000000000 := by simp; omega
  have hstep : (ms[i.toNat]!).fr = endM p (ms.take i.toNat) → ∀ j : Nat, (j : Int) < i + 1 → (ms[j]!).fr = endM p (ms.take j) := by
    intro e j h1
    by_cases hj : (j : Int) = i
    · rw [show i.toNat = j by omega] at e; exact e
    · exact hall j (by omega)
  have hne : ¬ (ms[i.toNat]!).fr = endM p (ms.take i.toNat) → linkM p ms = false := fun hn => by
    rw [linkM]; exact decide_eq_false fun hh => hn (hh i.toNat (by omega))
  obtain ⟨F, _, hF⟩ := w38r hrs htl p
  generalize ms[i.toNat]! = x at *
  generalize endM p (ms.take i.toNat) = e at *
  obtain ⟨As, cs, rfl⟩ := hrs.len
  generalize (ms.take i.toNat).length = k at *
  refine Sat.skip ?_
  simp -dsimp
  refine Sat.sq ?_
  refine Sat.block ?_
  refine Sat.sq ?_
  refine Sat.drw u36_4 mixed (by kernel_rfl) (by kernel_rfl) (by kernel_rfl) (by kernel_rfl) ?_
  simp -dsimp [t1, t2, t5, hB1, -indexAddrA, am.idx, ↓am.l36, hB, -sliceA, hsv]
  refine callD.reads _ F hF ?_
  simp -dsimp
  refine Sat.ite rfl (fun hc => ?_) (fun hc => ?_)
  · have hc : ¬ x.fr = e := fun ee => by rw [← ee] at hc; simp [Mot.fr] at hc
    refine Sat.sq ?_
    refine Sat.reg (by kernel_rfl) ?_
    simp -dsimp
    refine Sat.ret ?_
    try simp -dsimp only [thenH_ret, blockA_ret, thenA_ret]
    refine PureQ.ret (r := .bool (linkM p ms)) (by rfl) hk1 ?_
    rw [hne hc]; rfl
  · have hc : x.fr = e := by
      have hc : x.fx = e.x ∧ x.fy = e.y ∧ x.fz = e.z := by simpa using hc
      cases e; simp_all [Mot.fr]
    have W : IntKind.i64.wrap (i + 1) = i + 1 := wrap_in (by omega) (by omega)
    refine Sat.skip ?_
    simp -dsimp
    refine Sat.reg (by kernel_rfl) ?_
    simp -dsimp [t1, t2, t5, W]
    exact ⟨i + 1, ⟨rfl, by omega, by omega, by simpa using hstep hc⟩, by omega⟩

end Go.Proofs.Ytoinimkmoojcoaa
/- Walks, part T3. -/
set_option maxRecDepth 100000
set_option maxHeartbeats 4000000
set_option linter.unusedSimpArgs false
set_option linter.unusedVariables false
namespace Go.Proofs.Ytoinimkmoojcoaa
open Go Go.Dm
attribute [local simp ↓] RunS_nil RunS_op RunS_guard RunT_nil RunT_op RunT_guard opS_call opD_call opS_move opD_move opS_assign opD_assign opS_pick opD_pick opS_nilCheck opD_nilCheck opS_fieldAddr opD_fieldAddr opS_indexAddr opD_indexAddr opS_load opD_load opS_store opD_store opS_alloc opD_alloc opS_box opD_box opS_build opD_build opS_buildSlice opD_buildSlice opS_field opD_field opS_extract opD_extract opS_makeFunc opD_makeFunc opS_slice opD_slice opS_binOp opD_binOp opS_unOp opD_unOp opS_convert opD_convert opS_index opD_index opS_len opD_len opS_append opD_append opS_max opD_max opS_min opD_min obind_some obind_none thenH_normal thenH_ret thenH_exit blockA_normal blockA_ret blockA_exit thenA_normal thenA_ret thenA_exit dstAt_mk dstL_zero dstL_succ
attribute [local simp] undef wantG_bool wantG_undef findO_some calleeS find putA ev closed3 closed2 closed1 closed0 pickA binF unF convF mxF eqNilA fastBin fastUn fastConv intBin argEnv resultsA resultsL resultA notTuple allocs eff
  loadO storeO allocO boxO sliceO indexO indexAddrA loadA storeA newA isAggT nilCheckA lenA evAll evParts aadd gen upd_at upd_upd Value.cells mxV Pairs apart readsS labOf putAt fieldA partA extractA makeFuncA evOpt boundOf sliceA Nat.add_assoc
attribute [local simp] bu107_z bu107_0_1 bu25_0_1_2 bu36_z bu36_0_1 bu36_0_1_2 bu36_0 bu38_z bu38_0_1_2_3_4 bu38_0_1_3 bu38_0_1_3_4 bu38_1_2 bu38_1_2_3 bu52_0_1_10 bu81_0_1 bs22_0_z bs22_1_0 bs22_2_0_1 bs39_1_0 bs39_7_0_1_2_3_4_5_6 bs95_4_0_1_2_3
attribute [local simp ↓] eql107 neq107 eql36 neq36 eql38 neq38 eql25 neq25
attribute [local simp] fa25_0 fa25_1 fa25_2 fa36_0 fa36_1 fa36_2 fa38_0 fa38_1 fa38_2 fa38_3 fa38_4 fa107_0 fa107_1 fa81_0 fa81_1 fa81_2 fa81_3 fa81_4 fa81_5 fa81_6 fa81_7 fa81_8 fa81_9 fa81_10 fa52_0 fa52_1 fa52_2 fa52_3 fa52_4 fa52_5 fa52_6 fa52_7 fa52_8 fa52_9 fa52_10 fa52_11 fa52_12
attribute [local simp] c22 c39 c29 z22 z39 c25 c38 c2 c3 c4 c36 c107 c30 z25 z38 z2 z3 z4 z36 z107 b38 b25 b107 h38 h25 h36 h107 g38 g25 g36 g107 Try.underlying25 Try.underlying38 Try.underlying2 Try.underlying3 Try.underlying4 Try.underlying36 Try.underlying22 Try.underlying39 Try.underlying29 Try.underlying81 Try.underlying107 Try.underlying30
attribute [local simp] mx mn
def longM (ms : List Mot) : List Mot := ms.filter fun m => decide (m.fr ≠ m.to)
theorem longM_step {ms : List Mot} {i : Nat} (h : i < ms.length) : longM (ms.take (i + 1)) = longM (ms.take i) ++ (if (ms[i]!).fr = (ms[i]!).to then [] else [ms[i]!]) := by
  unfold longM
  rw [List.take_succ_eq_append_getElem h, List.filter_append, getElem!_pos ms i h]
  congr 1
  by_cases e : ms[i].fr = ms[i].to
  · simp [e]
  · simp [e]
def longPost (ms : List Mot) (h : Heap) (n : Nat) (r : Value) (h' : Heap) (n' : Nat) : Prop := n ≤ n' ∧ (∀ L, L < n → h' L = h L) ∧ ∃ s', r = s' ∧ GS h' 38 9 s' (motCells (longM ms)) (longM ms).length n n'
def at41 (h : Heap) (n : Nat) (ms : List Mot) (Al : Option Addr) (cl : Nat) (i k : Nat) (T : TEnv) (h' : Heap) (n' : Nat) : Prop :=
  find T 6 = some (.slice Al ms.length cl) ∧ find T 7 = some (.int .i64 ms.length) ∧ find T 8 = some (.int .i64 i) ∧ n ≤ n' ∧ (∀ L, L < n → h' L = h L) ∧ ∃ s', find T 3 = some s' ∧ GS h' 38 9 s' (motCells (longM (ms.take k))) (longM (ms.take k)).length n n'
theorem w41raw {h : Heap} {lv : Value} {ms : List Mot} (hr : RO h 9 lv (motCells ms) ms.length) (few : ms.length ≤ 1000000) (n : Nat) :
    Dm.Spec Try.prog 41 [lv] h n (longPost ms h n) := by
  refine Spec.body Try.func41 rfl (by kernel_rfl) Try.ntmps41 (by rw [Try.results41]) (Nat.le_of_ble_eq_true rfl) ?_
  refine Sat.lt fun hlt => ?_
  obtain ⟨Al, cl, rfl⟩ := hr.len
  refine Sat.sq ?_
  refine Sat.reg (by kernel_rfl) ?_
  simp -dsimp
  refine Sat.sq ?_
  refine Sat.reg (by kernel_rfl) ?_
  simp -dsimp
  refine Sat.join (at41 h n ms Al cl ms.length ms.length) ?_ ?_
  · refine Sat.sq ?_
    refine Sat.reg (by kernel_rfl) ?_
    simp -dsimp
    refine Sat.block ?_
    refine Sat.loop (ι := Nat) (fun i T h' n' => at41 h n ms Al cl i i T h' n' ∧ i ≤ ms.length) (fun i => ms.length - i) 0 ?_ ?_
    · exact ⟨⟨rfl, rfl, rfl, Nat.le_refl _, fun _ _ => rfl, _, rfl, .nil⟩, by simp⟩
    rintro i T h' n' ⟨⟨t6, t7, t8, hn, hk, s', t3, hg⟩, hi⟩
    refine Sat.lt fun hlt' => ?_
    refine Sat.sq ?_
    refine Sat.reg (by kernel_rfl) ?_
    simp -dsimp [t7, t8]
    refine Sat.sq ?_
    refine Sat.ite rfl (fun hq => ?_) (fun hq => ?_)
    rotate_left
    · have hq : ¬ i < ms.length := by simpa using hq
      have e : i = ms.length := by omega
      subst e
      refine Sat.exit ?_
      simp -dsimp
      exact ⟨t6, t7, t8, hn, hk, s', t3, hg⟩
    have hq : i < ms.length := by simpa using hq
    have hr' : RO h' 9 (.slice Al ms.length cl) (motCells ms) ms.length := hr.fz fun L b x _ => by rw [hk L (hlt L b x)]; exact x
    obtain ⟨B, o, sp, b, hB, hbo, am⟩ := hr'.mot (i := (i : Int)) (by omega) (by omega)
    rw [show ((i : Int).toNat) = i by omega] at am
    have hstep := longM_step hq
    have hll : (longM (ms.take i)).length ≤ 1000000 := by
      have := List.length_filter_le (fun m : Mot => decide (m.fr ≠ m.to)) (ms.take i)
      unfold longM
      have h2 : (ms.take i).length ≤ ms.length := by simp; omega
      omega
    generalize ms[i]! = m at *
    refine Sat.skip ?_
    simp -dsimp
    refine Sat.join (at41 h n ms Al cl i (i + 1)) ?_ ?_
    rotate_left
    · rintro T2 h2 n2 ⟨t6, t7, t8, hn, hk, s', t3, hg⟩
      have W : IntKind.i64.wrap ((i : Int) + 1) = (i : Int) + 1 := wrap_in (by omega) (by omega)
      refine Sat.reg (by kernel_rfl) ?_
      simp -dsimp [t8, W]
      exact ⟨i + 1, ⟨⟨by simp [t6, find], by simp [t7, find], rfl, hn, hk, s', by simp [t3, find], hg⟩, by omega⟩, by omega⟩
    refine Sat.block ?_
    refine Sat.sq ?_
    refine Sat.reg (by kernel_rfl) ?_
    simp -dsimp [t6, t8, -indexAddrA, am.idx, ↓am.l38, hB]
    have hB1 : upd h' n' ⟨m.cells, 38, 0, true⟩ n' = some ⟨m.cells, 38, 0, true⟩ := by rw [upd_at, if_pos rfl]
    have hg1 : GS (upd h' n' ⟨m.cells, 38, 0, true⟩) 38 9 s' (motCells (longM (ms.take i))) (longM (ms.take i)).length n n' := hg.frame (fun L h1 h3 => by rw [upd_at, if_neg (by omega)]) (Nat.le_refl _)
    have hk1 : ∀ L, L < n → upd h' n' ⟨m.cells, 38, 0, true⟩ L = h L := fun L hL => by rw [upd_at, if_neg (by omega)]; exact hk L hL
    dsimp only [Mot.cells] at hB1 hg1 hk1
    generalize upd h' n' _ = g1 at *
    refine Sat.sq ?_
    refine Sat.reg (by kernel_rfl) ?_
    simp -dsimp [hB1]
    refine Sat.ite rfl (fun hz => ?_) (fun hz => ?_)
    · have hz : ¬ m.fr = m.to := fun e => by
        have e1 : m.fx = m.tx := congrArg P3.x e
        have e2 : m.fy = m.ty := congrArg P3.y e
        have e3 : m.fz = m.tz := congrArg P3.z e
        simp [e1, e2, e3] at hz
      rw [if_neg hz] at hstep
      have hg2 : GS (upd g1 (n' + 1) ⟨m.cells, 38, 0, true⟩) 38 9 s' (motCells (longM (ms.take i))) (longM (ms.take i)).length n n' := hg1.frame (fun L h1 h3 => by rw [upd_at, if_neg (by omega)]) (Nat.le_refl _)
      obtain ⟨s2, E, ha, hfr, hal, hal2, hg3⟩ := hg2.append (P := Try.prog) (t := 22) (L := n' + 2) (B := n' + 1) (xs := m.cells) (bo := true) (by' := 72) Try.underlying22 c38 b38 z38 rfl (by omega) (by omega) (by rw [upd_at, if_pos rfl]) rfl (by omega) (by omega) (by omega)
      have hk3 : ∀ L, L < n → eff (upd g1 (n' + 1) ⟨m.cells, 38, 0, true⟩) E L = h L := fun L hL => by rw [hfr _ (by omega), upd_at, if_neg (by omega)]; exact hk1 L hL
      have e9 : motCells (longM (ms.take (i + 1))) = motCells (longM (ms.take i)) ++ m.cells := by rw [hstep]; simp [motCells]
      have el : (longM (ms.take (i + 1))).length = (longM (ms.take i)).length + 1 := by rw [hstep]; simp
      rw [← e9, ← el] at hg3
      dsimp only [Mot.cells] at ha hg3 hk3
      refine Sat.reg (by kernel_rfl) ?_
      simp -dsimp [t3, hB1, ha, -eff, -allocs]
      exact ⟨by simp [t6, find], by simp [t7, find], by simp [t8, find], by omega, hk3, s2, rfl, hg3⟩
    · have hz : m.fr = m.to := by
        have hz : m.fx = m.tx ∧ m.fy = m.ty ∧ m.fz = m.tz := by simpa using hz
        unfold Mot.fr Mot.to; rw [hz.1, hz.2.1, hz.2.2]
      rw [if_pos hz, List.append_nil] at hstep
      refine Sat.skip ?_
      simp -dsimp
      exact ⟨by simp [t6, find], by simp [t7, find], by simp [t8, find], by omega, hk1, s', by simp [t3, find], by rw [hstep]; exact hg1.frame (fun _ _ _ => rfl) (by omega)⟩
  rintro T h2 n2 ⟨_, _, _, hn, hk, s', t3, hg⟩
  rw [List.take_length] at hg
  obtain ⟨A', c', e'⟩ := hg.val
  subst e'
  refine Sat.sq ?_
  refine Sat.reg (by kernel_rfl) ?_
  simp -dsimp [t3]
  refine Sat.ret ?_
  try simp -dsimp only [thenH_ret, blockA_ret, thenA_ret]
  exact RetQ.ret (r := .slice A' (longM ms).length c') (by rfl) ⟨hn, hk, _, rfl, hg⟩
theorem w41 {h : Heap} {lv : Value} {ms : List Mot} (hr : RO h 9 lv (motCells ms) ms.length) (few : ms.length ≤ 1000000) (n : Nat) (o : Bool) :
    Dm.Spec Try.prog 41 [lv] h n fun r h' n' => r = gcv n 9 (longM ms).length ∧ h' = applyU h (gcu n 38 (motCells (longM ms)) (longM ms).length o) ∧ n' = n + 1 :=
  Spec.gc (F := fun s => s) carries_id (motCells_closed _) (w41raw hr few n) o
theorem w73 (a b c x y z : Int) (ha : okc a ∧ okc b ∧ okc c) (hx : okc x ∧ okc y ∧ okc z) : Pure Try.prog 73 [p3 a b c, p3 x y z] (p3 (a + x) (b + y) (c + z)) := by
  obtain ⟨a1, a2, a3⟩ := ha
  obtain ⟨x1, x2, x3⟩ := hx
  unfold okc at *
  have W1 : IntKind.i64.wrap (a + x) = a + x := wrap_in (by omega) (by omega)
  have W2 : IntKind.i64.wrap (b + y) = b + y := wrap_in (by omega) (by omega)
  have W3 : IntKind.i64.wrap (c + z) = c + z := wrap_in (by omega) (by omega)
  refine Pure.of_body Try.func73 rfl (by kernel_rfl) Try.ntmps73 (by rw [Try.results73]) (Nat.le_of_ble_eq_true rfl) fun h n => ?_
  refine Sat.sq ?_
  refine Sat.reg (by kernel_rfl) ?_
  simp -dsimp
  refine Sat.sq ?_
  refine Sat.reg (by kernel_rfl) ?_
  simp -dsimp [W1, W2, W3]
  refine Sat.ret (PureQ.ret rfl (keep_upd (by omega) (keep_upd (by omega) (keep_upd (by omega) keep_refl))) ?_)
  simp -dsimp

end Go.Proofs.Ytoinimkmoojcoaa
/- A controller without feed holds does whole motions, one piece each, in as many ticks as the plans have steps. -/
set_option linter.unusedSimpArgs false
set_option linter.unusedVariables false
namespace Go.Proofs.Ytoinimkmoojcoaa
open Go Go.Dm
def cost (S A J : Int) (m : Mot) : Nat := (stepsM (limM m.rate S) A J m.len).1.length
def costs (S A J : Int) (ms : List Mot) (i : Nat) : Nat := ((ms.drop i).map (cost S A J)).sum
theorem costs_step {S A J : Int} {ms : List Mot} {i : Nat} (h : i < ms.length) : costs S A J ms i = cost S A J (ms[i]!) + costs S A J ms (i + 1) := by
  unfold costs
  rw [List.drop_eq_getElem_cons h, List.map_cons, List.sum_cons, getElem!_pos ms i h]
theorem costs_mono {S A J : Int} {ms : List Mot} : ∀ (k i : Nat), i + k ≤ ms.length → costs S A J ms (i + k) ≤ costs S A J ms i
  | 0, _, _ => Nat.le_refl _
  | k + 1, i, h => by
    have h1 := costs_mono (S := S) (A := A) (J := J) (ms := ms) k i (by omega)
    have h2 := costs_step (S := S) (A := A) (J := J) (ms := ms) (i := i + k) (by omega)
    rw [show i + (k + 1) = i + k + 1 by omega]; omega
theorem longM_skip {ms : List Mot} (hn : ∀ m ∈ ms, m.near) : ∀ (k i : Nat), i + k ≤ ms.length → (∀ q, i ≤ q → q < i + k → (ms[q]!).len = 0) → longM (ms.take (i + k)) = longM (ms.take i)
  | 0, _, _, _ => rfl
  | k + 1, i, h, hz => by
    have h1 := longM_skip hn k i (by omega) (fun q a b => hz q a (by omega))
    have hi : i + k < ms.length := by omega
    have hm : ms[i + k]! ∈ ms := by rw [getElem!_pos ms (i + k) hi]; exact List.getElem_mem _
    have h2 := longM_step hi
    rw [if_pos (len_zero (hn _ hm) (hz (i + k) (by omega) (by omega))), List.append_nil] at h2
    rw [show i + (k + 1) = i + k + 1 by omega, h2, h1]
theorem zero_len {m : Mot} (h : m.fr = m.to) : m.len = 0 := by
  have e1 : m.fx = m.tx := congrArg P3.x h
  have e2 : m.fy = m.ty := congrArg P3.y h
  have e3 : m.fz = m.tz := congrArg P3.z h
  have hs : m.sum = 0 := by unfold Mot.sum; rw [e1, e2, e3]; simp
  have h2 := (lenS_spec (s := m.sum) (by omega))
  unfold Mot.len
  rcases h2.2.2.2 with h | h
  · exact h
  · rw [hs] at h ⊢
    have : 0 ≤ (lenS 0 - 1) * (lenS 0 - 1) := by
      rcases Int.le_total 0 (lenS 0 - 1) with h | h
      · exact Int.mul_nonneg h h
      · have := Int.mul_nonneg (a := -(lenS 0 - 1)) (b := -(lenS 0 - 1)) (by omega) (by omega)
        rwa [Int.neg_mul_neg] at this
    omega
structure CS.Solo (s : CS) : Prop where
  run : s.Run
  path : s.Path
  free : s.held = false ∧ s.broken = false
  fine : ∀ m ∈ s.ms, (stepsM (limM m.rate s.S) s.A s.J m.len).2 = 0
  zero : s.resting = true → s.index < s.ms.length → s.part = 0
  full : s.resting = false → s.braking = false ∧ s.part + (s.plan.drop s.cov.toNat).sum = s.cur.len
  frm : s.index < s.ms.length → s.last = s.cur.fr
  pcs : s.pieces = longM (s.ms.take s.index.toNat)
def CS.bud (s : CS) : Nat := if s.resting then costs s.S s.A s.J s.ms s.index.toNat else (s.plan.length - s.cov.toNat) + costs s.S s.A s.J s.ms (s.index.toNat + 1)
theorem Path_frm {s : CS} (h : s.Path) (hr : s.Ok) (hp : s.index < s.ms.length → s.part = 0) (hi : s.index < s.ms.length) : s.last = s.cur.fr := by
  obtain ⟨p, p0, p1, pe⟩ := h.at0 hi
  rw [pe, show p = 0 by have := hp hi; omega, at_zero (hr.part hi).1]
theorem CS.Solo.steps {s : CS} (h : s.Solo) (hq : s.resting = true) (hi : s.index < s.ms.length) : s.steps.2 = 0 ∧ s.steps.1.length ≠ 0 ∧ s.steps.1.sum = s.cur.len ∧ s.steps.1.length = cost s.S s.A s.J s.cur := by
  have hz := h.zero hq hi
  have hf := h.fine _ (cur_mem h.run.ok.idx.1 hi)
  have e : s.steps = stepsM (limM s.cur.rate s.S) s.A s.J s.cur.len := by unfold CS.steps; rw [hz, Int.sub_zero]
  rw [e]
  have hs := steps_sum hf
  refine ⟨hf, fun h0 => ?_, hs.2.2.1, rfl⟩
  have : (stepsM (limM s.cur.rate s.S) s.A s.J s.cur.len).1 = [] := List.eq_nil_of_length_eq_zero h0
  have h1 := hs.2.2.1
  rw [this] at h1
  have := (h.run.ok.part hi).1
  simp at h1; omega
theorem CS.Solo.moves {s : CS} (h : s.Solo) (hi : s.index < s.ms.length) : s.moves = true := by
  have hne : ¬ s.index = s.ms.length := by omega
  cases hq : s.resting with
  | false => simp [CS.moves, hq, h.free.2, hne]
  | true =>
    obtain ⟨h1, h2, _⟩ := h.steps hq hi
    simp [CS.moves, hq, h.free.1, h.free.2, hne, h1, h2]
theorem CS.Solo.tick {s : CS} (h : s.Solo) (hi : s.index < s.ms.length) : s.tick.Solo ∧ s.tick.bud + 1 ≤ s.bud := by
  have hm := h.moves hi
  have ht : s.tick = s.planned.go.rest := by simp [CS.tick, hm]
  obtain ⟨_, _, hpr, hpc⟩ := h.run.mv hm
  have hrunT := h.run.tick
  have hpathT := h.path.tick h.run
  obtain ⟨t1, t2, t3, t4, t5, t6, t7⟩ := tick_eq s
  obtain ⟨c1, c2, c3, c4, c5, c6, c7, c8, c9, c10⟩ := planned_eq s
  have hcur : s.planned.cur = s.cur := by unfold CS.cur; rw [c1, c5]
  have hgo := hpr.go hpc
  have hcv := hpr.cov
  -- what is planned
  have hpl : s.planned.braking = false ∧ s.planned.part + (s.planned.plan.drop s.planned.cov.toNat).sum = s.cur.len ∧ (s.planned.plan.length - s.planned.cov.toNat) + costs s.S s.A s.J s.ms (s.index.toNat + 1) = s.bud := by
    cases hq : s.resting with
    | false =>
      have hp : s.planned = s := by simp [CS.planned, hq]
      rw [hp]
      obtain ⟨f1, f2⟩ := h.full hq
      refine ⟨f1, f2, ?_⟩
      unfold CS.bud; rw [hq]; rfl
    | true =>
      have hp : s.planned = { s with plan := s.steps.1, cov := 0, braking := false } := by simp [CS.planned, hq]
      obtain ⟨s1, s2, s3, s4⟩ := h.steps hq hi
      rw [hp]
      refine ⟨rfl, ?_, ?_⟩
      · show s.part + (s.steps.1.drop 0).sum = s.cur.len
        rw [List.drop_zero, s3, h.zero hq hi]; omega
      · show (s.steps.1.length - 0) + _ = _
        have hi0 := h.run.ok.idx.1
        unfold CS.bud
        rw [hq, if_pos rfl, costs_step (i := s.index.toNat) (by omega), s4]; rfl
  obtain ⟨pb, psum, pbud⟩ := hpl
  have hds := drop_sum (l := s.planned.plan) (i := s.planned.cov.toNat) (by omega)
  have hgcov : s.planned.go.cov.toNat = s.planned.cov.toNat + 1 := by
    show (s.planned.cov + 1).toNat = _; omega
  have hgsum : s.planned.go.part + (s.planned.go.plan.drop s.planned.go.cov.toNat).sum = s.cur.len := by
    rw [hgcov]
    show s.planned.part + s.planned.plan[s.planned.cov.toNat]! + (s.planned.plan.drop (s.planned.cov.toNat + 1)).sum = _
    omega
  have hgi : s.planned.go.index < s.planned.go.ms.length := by show s.planned.index < (s.planned.ms.length : Int); rw [c1, c5]; exact hi
  have hgcur : s.planned.go.cur = s.cur := hcur
  cases hq : s.planned.go.resting with
  | false =>
    have er : s.tick = s.planned.go := by rw [ht, CS.rest, hq]; rfl
    refine ⟨⟨hrunT, hpathT, ⟨t5.trans h.free.1, t6.trans h.free.2⟩, ?_, ?_, ?_, ?_, ?_⟩, ?_⟩
    · rw [t1, t2, t3, t4]; exact h.fine
    · rw [er, hq]; intro hx; cases hx
    · rw [er, hgcur]; exact fun _ => ⟨pb, hgsum⟩
    · rw [er, hgcur]; intro _; show s.planned.last = _; rw [c9]; exact h.frm hi
    · rw [er]; show s.planned.pieces = longM (s.planned.ms.take s.planned.index.toNat); rw [c10, c1, c5]; exact h.pcs
    · rw [er]
      unfold CS.bud
      rw [hq]
      show (s.planned.plan.length - s.planned.go.cov.toNat) + costs s.planned.S s.planned.A s.planned.J s.planned.ms (s.planned.index.toNat + 1) + 1 ≤ s.bud
      rw [hgcov, c1, c2, c3, c4, c5, ← pbud]
      omega
  | true =>
    have er : s.tick = s.planned.go.stop := by rw [ht, CS.rest, hq]; rfl
    have hd : s.planned.go.plan.drop s.planned.go.cov.toNat = [] := by
      simp only [CS.resting, decide_eq_true_eq] at hq
      rw [List.drop_eq_nil_iff]; omega
    have hend : s.planned.go.part = s.planned.go.cur.len := by
      rw [hd] at hgsum; simp at hgsum; rw [hgcur]; exact hgsum
    have hge := go_end hgo.ok hgi hend
    have hpart : s.tick.part = 0 := by rw [er, hge]; rfl
    have hgidx : s.planned.go.index = s.index := c5
    have hgms : s.planned.go.ms = s.ms := c1
    have hidx : s.tick.index = skipL s.ms s.ms.length (s.index + 1) := by
      rw [er, hge]
      show skipL s.planned.go.ms s.planned.go.ms.length (s.planned.go.index + 1) = _
      rw [hgms, hgidx]
    have hi0 := h.run.ok.idx.1
    obtain ⟨k1, k2, k3, k4⟩ := skip_spec (ms := s.ms) (i := s.index + 1) (by omega) (by omega)
    have hres : s.tick.resting = true := by
      rw [er]
      obtain ⟨_, _, _, _, e5, e6, _⟩ := stop_eq s.planned.go
      simp [CS.resting, e5, e6]
    have hcl := (h.run.ok.part hi).1
    have hne : ¬ s.cur.fr = s.cur.to := fun e => by have := zero_len e; omega
    have hfrm := h.frm hi
    have hpcs : s.tick.pieces = longM (s.ms.take (s.index.toNat + 1)) := by
      rw [er, hge]
      show s.planned.go.toP s.planned.go.cur = _
      have hl : s.planned.go.last = s.cur.fr := c9.trans hfrm
      have hps : s.planned.go.pieces = s.pieces := c10
      unfold CS.toP
      rw [hgcur, hl, if_neg hne, hps, longM_step (by omega), h.pcs]
      have hcs : s.ms[s.index.toNat]! = s.cur := rfl
      rw [hcs, if_neg hne]
      congr 2
      unfold CS.segTo
      rw [hl]; rfl
    have hbase := longM_skip h.run.ok.near (skipL s.ms s.ms.length (s.index + 1) - (s.index + 1)).toNat (s.index.toNat + 1) (by omega) (fun q a b => by
      have := k4 q (by omega) (by omega)
      rwa [show ((q : Int).toNat) = q by omega] at this)
    have hidn : s.index.toNat + 1 + (skipL s.ms s.ms.length (s.index + 1) - (s.index + 1)).toNat = s.tick.index.toNat := by rw [hidx]; omega
    rw [hidn] at hbase
    refine ⟨⟨hrunT, hpathT, ⟨t5.trans h.free.1, t6.trans h.free.2⟩, ?_, fun _ _ => hpart, ?_, fun hx => Path_frm hpathT hrunT.ok (fun _ => hpart) hx, ?_⟩, ?_⟩
    · rw [t1, t2, t3, t4]; exact h.fine
    · rw [hres]; intro hx; cases hx
    · rw [hpcs, t1, hbase]
    · have hb : s.tick.bud = costs s.S s.A s.J s.ms s.tick.index.toNat := by unfold CS.bud; rw [hres, if_pos rfl, t1, t2, t3, t4]
      rw [hb, ← hidn]
      have := costs_mono (S := s.S) (A := s.A) (J := s.J) (ms := s.ms) (skipL s.ms s.ms.length (s.index + 1) - (s.index + 1)).toNat (s.index.toNat + 1) (by omega)
      omega
theorem firstErr_all {f : Int → Int} : ∀ (k : Nat) (i : Int), firstErr f k i = 0 → ∀ j, i ≤ j → j < i + k → f j = 0
  | 0, _, _, j, h1, h2 => by omega
  | k + 1, i, h, j, h1, h2 => by
    rw [firstErr] at h
    split at h
    · rename_i h0
      by_cases e : j = i
      · rw [e]; exact h0
      · exact firstErr_all k (i + 1) h j (by omega) (by omega)
    · rename_i h0; exact absurd h h0
theorem CS.Solo.new {S A J : Int} {ms : List Mot} (hc : checkM S A J ms = 0) (hr : ∀ m ∈ ms, 0 ≤ m.rate ∧ m.rate ≤ 9223372036854775807) : (CS.new S A J ms).Solo ∧ (CS.new S A J ms).bud ≤ costs S A J ms 0 := by
  obtain ⟨h1, h2, h3, h4, h5⟩ := checkM_ok hc
  have hcn := conn_of h2
  have hrun := CS.Run.new hc hr
  have hb : CS.Base ⟨ms, S, A, J, 0, 0, [], 0, false, false, false, [], firstFr ms⟩ := ⟨fars_near' h3, hr, by show ms.length ≤ 20000; omega, h1⟩
  have hpath : (CS.new S A J ms).Path := by
    refine CS.Path.skip hb (by simp) (by simp) rfl .start (fun hi => ?_) hcn
    have hi : (0 : Int) < ms.length := hi
    show firstFr ms = (ms[(0 : Int).toNat]!).fr
    unfold firstFr; rw [if_pos (by omega)]; rfl
  obtain ⟨k1, k2, k3, k4⟩ := skip_spec (ms := ms) (i := 0) (by omega) (by omega)
  have hidx : (CS.new S A J ms).index = skipL ms ms.length 0 := rfl
  have hres : (CS.new S A J ms).resting = true := rfl
  refine ⟨⟨hrun, hpath, ⟨rfl, rfl⟩, fun m hm => ?_, fun _ _ => rfl, (fun hx => by cases hx), fun hi => Path_frm hpath hrun.ok (fun _ => rfl) hi, ?_⟩, ?_⟩
  · have hm : m ∈ ms := hm
    obtain ⟨i, hi, rfl⟩ := List.mem_iff_getElem.1 hm
    have := firstErr_all _ _ h5 (i : Int) (by omega) (by omega)
    unfold err1 at this
    rw [show ((i : Int).toNat) = i by omega, getElem!_pos ms i hi] at this
    exact this
  · show [] = longM (ms.take (CS.new S A J ms).index.toNat)
    rw [hidx]
    have := longM_skip (fars_near' h3) (skipL ms ms.length 0).toNat 0 (by omega) (fun q a b => by
      have := k4 q (by omega) (by omega)
      rwa [show ((q : Int).toNat) = q by omega] at this)
    rw [Nat.zero_add] at this
    rw [this]; rfl
  · unfold CS.bud
    rw [hres, if_pos rfl, hidx]
    have := costs_mono (S := S) (A := A) (J := J) (ms := ms) (skipL ms ms.length 0).toNat 0 (by omega)
    rw [Nat.zero_add] at this
    exact this
theorem CS.Solo.bud_pos {s : CS} (h : s.Solo) (hi : s.index < s.ms.length) : 1 ≤ s.bud := by have := (h.tick hi).2; omega
theorem CS.Solo.end_ {s : CS} (h : s.Solo) (hi : s.index = s.ms.length) : s.done = longM s.ms := by
  rw [(h.path.end_ hi).1, h.pcs, hi]; simp
end Go.Proofs.Ytoinimkmoojcoaa
/- Walks, part T4. -/
set_option maxRecDepth 100000
set_option maxHeartbeats 4000000
set_option linter.unusedSimpArgs false
set_option linter.unusedVariables false
namespace Go.Proofs.Ytoinimkmoojcoaa
open Go Go.Dm
attribute [local simp ↓] RunS_nil RunS_op RunS_guard RunT_nil RunT_op RunT_guard opS_call opD_call opS_move opD_move opS_assign opD_assign opS_pick opD_pick opS_nilCheck opD_nilCheck opS_fieldAddr opD_fieldAddr opS_indexAddr opD_indexAddr opS_load opD_load opS_store opD_store opS_alloc opD_alloc opS_box opD_box opS_build opD_build opS_buildSlice opD_buildSlice opS_field opD_field opS_extract opD_extract opS_makeFunc opD_makeFunc opS_slice opD_slice opS_binOp opD_binOp opS_unOp opD_unOp opS_convert opD_convert opS_index opD_index opS_len opD_len opS_append opD_append opS_max opD_max opS_min opD_min obind_some obind_none thenH_normal thenH_ret thenH_exit blockA_normal blockA_ret blockA_exit thenA_normal thenA_ret thenA_exit dstAt_mk dstL_zero dstL_succ
attribute [local simp] undef wantG_bool wantG_undef findO_some calleeS find putA ev closed3 closed2 closed1 closed0 pickA binF unF convF mxF eqNilA fastBin fastUn fastConv intBin argEnv resultsA resultsL resultA notTuple allocs eff
  loadO storeO allocO boxO sliceO indexO indexAddrA loadA storeA newA isAggT nilCheckA lenA evAll evParts aadd gen upd_at upd_upd Value.cells mxV Pairs apart readsS labOf putAt fieldA partA extractA makeFuncA evOpt boundOf sliceA Nat.add_assoc
attribute [local simp] bu107_z bu107_0_1 bu25_0_1_2 bu36_z bu36_0_1 bu36_0_1_2 bu36_0 bu38_z bu38_0_1_2_3_4 bu38_0_1_3 bu38_0_1_3_4 bu38_1_2 bu38_1_2_3 bu52_0_1_10 bu81_0_1 bs22_0_z bs22_1_0 bs22_2_0_1 bs39_1_0 bs39_7_0_1_2_3_4_5_6 bs95_4_0_1_2_3
attribute [local simp ↓] eql107 neq107 eql36 neq36 eql38 neq38 eql25 neq25
attribute [local simp] fa25_0 fa25_1 fa25_2 fa36_0 fa36_1 fa36_2 fa38_0 fa38_1 fa38_2 fa38_3 fa38_4 fa107_0 fa107_1 fa81_0 fa81_1 fa81_2 fa81_3 fa81_4 fa81_5 fa81_6 fa81_7 fa81_8 fa81_9 fa81_10 fa52_0 fa52_1 fa52_2 fa52_3 fa52_4 fa52_5 fa52_6 fa52_7 fa52_8 fa52_9 fa52_10 fa52_11 fa52_12
attribute [local simp] c22 c39 c29 z22 z39 c25 c38 c2 c3 c4 c36 c107 c30 z25 z38 z2 z3 z4 z36 z107 b38 b25 b107 h38 h25 h36 h107 g38 g25 g36 g107 Try.underlying25 Try.underlying38 Try.underlying2 Try.underlying3 Try.underlying4 Try.underlying36 Try.underlying22 Try.underlying39 Try.underlying29 Try.underlying81 Try.underlying107 Try.underlying30
attribute [local simp] mx mn
theorem longM_len (ms : List Mot) : (longM ms).length ≤ ms.length := List.length_filter_le _ _
theorem CS.Solo.few {s : CS} (h : s.Solo) : s.pieces.length ≤ 20000 := by
  rw [h.pcs]
  have h1 := longM_len (s.ms.take s.index.toNat)
  have h2 : (s.ms.take s.index.toNat).length ≤ s.ms.length := by simp; omega
  have := h.run.ok.few
  omega
def finPost (C : Nat) (ms : List Mot) (h : Heap) (n : Nat) (r : Value) (h' : Heap) (n' : Nat) : Prop := r = .bool true ∧ n ≤ n' ∧ Fz h h' ∧ ∃ s : CS, s.Solo ∧ s.index = (ms.length : Int) ∧ s.ms = ms ∧ CIn h' n' C s
def at40 (C : Nat) (ms : List Mot) (h : Heap) (n : Nat) (T : TEnv) (h' : Heap) (n' : Nat) : Prop := n ≤ n' ∧ Fz h h' ∧ ∃ s : CS, s.Solo ∧ s.index = (ms.length : Int) ∧ s.ms = ms ∧ CIn h' n' C s
theorem w40 {h : Heap} {n C : Nat} {s : CS} {ms : List Mot} (hc : CIn h n C s) (hs : s.Solo) (hms : s.ms = ms) (hb : s.bud ≤ 20001) :
    Dm.Spec Try.prog 40 [pC C, .int .i64 ms.length] h n (finPost C ms h n) := by
  refine Spec.body Try.func40 rfl (by kernel_rfl) Try.ntmps40 (by rw [Try.results40]) (Nat.le_of_ble_eq_true rfl) ?_
  refine Sat.sq ?_
  refine Sat.reg (by kernel_rfl) ?_
  simp -dsimp
  refine Sat.join (at40 C ms h n) ?_ ?_
  rotate_left
  · rintro T h' n' hat
    refine Sat.sq ?_
    refine Sat.reg (by kernel_rfl) ?_
    simp -dsimp
    refine Sat.ret ?_
    try simp -dsimp only [thenH_ret, blockA_ret, thenA_ret]
    exact RetQ.ret (r := .bool true) (by rfl) ⟨rfl, hat⟩
  refine Sat.sq ?_
  refine Sat.reg (by kernel_rfl) ?_
  simp -dsimp
  refine Sat.block ?_
  refine Sat.loop (ι := Nat × CS) (fun i T h' n' => find T 0 = some (pC C) ∧ find T 1 = some (.int .i64 ms.length) ∧ find T 5 = some (.int .i64 i.1) ∧ n ≤ n' ∧ Fz h h' ∧ i.2.Solo ∧ i.2.ms = ms ∧ i.1 + i.2.bud ≤ 20001 ∧ CIn h' n' C i.2) (fun i => i.2.bud) (0, s) ?_ ?_
  · exact ⟨rfl, rfl, rfl, Nat.le_refl _, Fz.refl h, hs, hms, by simpa using hb, hc⟩
  clear hc hs hms hb
  rintro ⟨k, s⟩ T h' n' ⟨t0, t1, t5, hn, hf, hs, hms, hb, hc⟩
  simp only at t5 hs hms hb hc
  have hc' := hc
  obtain ⟨_, Lp, mv, pl, pv, hcr, _⟩ := hc'
  refine Sat.sq ?_
  refine Sat.sq ?_
  refine Sat.reg (by kernel_rfl) ?_
  simp -dsimp [t0]
  refine (w24 hcr _).useH ?_
  simp -dsimp [t1]
  refine Sat.ite rfl (fun hq => ?_) (fun hq => ?_)
  rotate_left
  · have hq : ¬ s.index < ms.length := by simpa using hq
    refine Sat.exit ?_
    simp -dsimp
    exact ⟨hn, hf, s, hs, by have := hs.run.ok.idx.2; rw [hms] at this; omega, hms, hc⟩
  have hq : s.index < ms.length := by simpa using hq
  rw [← hms] at hq
  have hbp := hs.bud_pos hq
  obtain ⟨hs2, hb2⟩ := hs.tick hq
  have h20 : ¬ (20000 : Int) < k := by omega
  refine Sat.skip ?_
  simp -dsimp
  refine Sat.sq ?_
  refine Sat.block ?_
  refine Sat.sq ?_
  refine Sat.reg (by kernel_rfl) ?_
  simp -dsimp [t5, t0, h20]
  refine (hc.tick hs.run (by have := hs.few; omega)).onH ?_
  rintro r h2 n2 ⟨rfl, hc2, hn2, hf2⟩
  rw [hs.moves hq]
  have W : IntKind.i64.wrap ((k : Int) + 1) = (k : Int) + 1 := wrap_in (by omega) (by omega)
  simp -dsimp
  refine Sat.cond (t := false) (by rfl) ?_
  refine Sat.skip ?_
  simp -dsimp
  refine Sat.reg (by kernel_rfl) ?_
  simp -dsimp [t5, W]
  exact ⟨k + 1, s.tick, ⟨by simp [t0, find], by simp [t1, find], by simp, by omega, hf.trans hf2, hs2, (tick_eq s).1.trans hms, by omega, hc2⟩, by omega⟩

end Go.Proofs.Ytoinimkmoojcoaa
/- Walks, part T5. -/
set_option maxRecDepth 100000
set_option maxHeartbeats 4000000
set_option linter.unusedSimpArgs false
set_option linter.unusedVariables false
namespace Go.Proofs.Ytoinimkmoojcoaa
open Go Go.Dm
attribute [local simp ↓] RunS_nil RunS_op RunS_guard RunT_nil RunT_op RunT_guard opS_call opD_call opS_move opD_move opS_assign opD_assign opS_pick opD_pick opS_nilCheck opD_nilCheck opS_fieldAddr opD_fieldAddr opS_indexAddr opD_indexAddr opS_load opD_load opS_store opD_store opS_alloc opD_alloc opS_box opD_box opS_build opD_build opS_buildSlice opD_buildSlice opS_field opD_field opS_extract opD_extract opS_makeFunc opD_makeFunc opS_slice opD_slice opS_binOp opD_binOp opS_unOp opD_unOp opS_convert opD_convert opS_index opD_index opS_len opD_len opS_append opD_append opS_max opD_max opS_min opD_min obind_some obind_none thenH_normal thenH_ret thenH_exit blockA_normal blockA_ret blockA_exit thenA_normal thenA_ret thenA_exit dstAt_mk dstL_zero dstL_succ
attribute [local simp] undef wantG_bool wantG_undef findO_some calleeS find putA ev closed3 closed2 closed1 closed0 pickA binF unF convF mxF eqNilA fastBin fastUn fastConv intBin argEnv resultsA resultsL resultA notTuple allocs eff
  loadO storeO allocO boxO sliceO indexO indexAddrA loadA storeA newA isAggT nilCheckA lenA evAll evParts aadd gen upd_at upd_upd Value.cells mxV Pairs apart readsS labOf putAt fieldA partA extractA makeFuncA evOpt boundOf sliceA Nat.add_assoc
attribute [local simp] bu107_z bu107_0_1 bu25_0_1_2 bu36_z bu36_0_1 bu36_0_1_2 bu36_0 bu38_z bu38_0_1_2_3_4 bu38_0_1_3 bu38_0_1_3_4 bu38_1_2 bu38_1_2_3 bu52_0_1_10 bu81_0_1 bs22_0_z bs22_1_0 bs22_2_0_1 bs39_1_0 bs39_7_0_1_2_3_4_5_6 bs95_4_0_1_2_3
attribute [local simp ↓] eql107 neq107 eql36 neq36 eql38 neq38 eql25 neq25
attribute [local simp] fa25_0 fa25_1 fa25_2 fa36_0 fa36_1 fa36_2 fa38_0 fa38_1 fa38_2 fa38_3 fa38_4 fa107_0 fa107_1 fa81_0 fa81_1 fa81_2 fa81_3 fa81_4 fa81_5 fa81_6 fa81_7 fa81_8 fa81_9 fa81_10 fa52_0 fa52_1 fa52_2 fa52_3 fa52_4 fa52_5 fa52_6 fa52_7 fa52_8 fa52_9 fa52_10 fa52_11 fa52_12
attribute [local simp] c22 c39 c29 z22 z39 c25 c38 c2 c3 c4 c36 c107 c30 z25 z38 z2 z3 z4 z36 z107 b38 b25 b107 h38 h25 h36 h107 g38 g25 g36 g107 Try.underlying25 Try.underlying38 Try.underlying2 Try.underlying3 Try.underlying4 Try.underlying36 Try.underlying22 Try.underlying39 Try.underlying29 Try.underlying81 Try.underlying107 Try.underlying30
attribute [local simp] mx mn
def awm : Mot := ⟨0, 0, 0, 500, -200, 0, 40000, 2, 0⟩
theorem awm_check : checkM 100 50 60 [awm] = 0 := by decide +kernel
theorem awm_cost : costs 100 50 60 [awm] 0 ≤ 2000 := by decide +kernel
theorem awm_idx : (CS.new 100 50 60 [awm]).index < ([awm].length : Int) := by decide +kernel
abbrev u35_11 : List (Nat × Nat) := [(16, 18)]
/-- A controller that lies above a label. -/
def CAb (lo : Nat) (h : Heap) (n C : Nat) (s : CS) : Prop := lo ≤ C ∧ C < n ∧ ∃ Lp mv pl pv, CRepV h C Lp s mv pl pv ∧ Lp < n ∧ lo ≤ Lp
theorem CAb.cin {lo : Nat} {h : Heap} {n C : Nat} {s : CS} (hc : CAb lo h n C s) : CIn h n C s := by
  obtain ⟨_, h1, Lp, mv, pl, pv, h2, h3, _⟩ := hc; exact ⟨h1, Lp, mv, pl, pv, h2, h3⟩
theorem CAb.post {lo : Nat} {h h' : Heap} {n n' C Lp : Nat} {s' : CS} {mv : Value} (h0 : lo ≤ C) (h1 : C < n) (h3 : Lp < n) (h4 : lo ≤ Lp) (hn : lo ≤ n) (hp : CPost h n C Lp s' mv h' n') : CAb lo h' n' C s' ∧ n ≤ n' ∧ Fz h h' ∧ ∀ L, L < lo → h' L = h L := by
  obtain ⟨Lp', pl', pv', a, b, c⟩ := hp
  refine ⟨⟨h0, by have := b.le; omega, Lp', mv, pl', pv', a, c, ?_⟩, b.le, b.fz, fun L hL => b.frame L (by omega) (by omega) (by omega)⟩
  rcases b.lab with h | h <;> omega
theorem CAb.tick {lo : Nat} {h : Heap} {n C : Nat} {s : CS} (hc : CAb lo h n C s) (hr : s.Run) (hp : s.pieces.length ≤ 1000000000000) : Dm.Spec Try.prog 22 [pC C] h n fun r' h' n' => r' = .bool s.moves ∧ CAb lo h' n' C s.tick ∧ n ≤ n' ∧ Fz h h' ∧ ∀ L, L < lo → h' L = h L := by
  obtain ⟨h0, h1, Lp, mv, pl, pv, h2, h3, h4⟩ := hc
  refine (w22 h2 hr hp n h3).mono ?_
  rintro r h' n' ⟨rfl, hpost⟩
  exact ⟨rfl, CAb.post h0 h1 h3 h4 (by omega) hpost⟩
def at35 (C n : Nat) (N : Nat) (h : Heap) (T : TEnv) (h' : Heap) (n' : Nat) : Prop :=
  find T 1 = some (.pointer (some ⟨n, 0, none⟩)) ∧ find T 2 = some (pC C) ∧ find T 4 = some (.int .i64 N) ∧ h' n = some ⟨awm.cells, 38, 0, true⟩ ∧ n + 1 ≤ n' ∧ (∀ L, L < n → h' L = h L)
theorem w35 : Pure Try.prog 35 [] (.bool true) := by
  refine Pure.of_body Try.func35 rfl (by kernel_rfl) Try.ntmps35 (by rw [Try.results35]) (Nat.le_of_ble_eq_true rfl) fun h n => ?_
  refine Sat.lt fun hlt => ?_
  refine Sat.sq ?_
  refine Sat.reg (by kernel_rfl) ?_
  simp -dsimp
  refine Sat.sq ?_
  refine Sat.reg (by kernel_rfl) ?_
  simp -dsimp
  have hB1 : upd h n ⟨awm.cells, 38, 0, true⟩ n = some ⟨awm.cells, 38, 0, true⟩ := by rw [upd_at, if_pos rfl]
  have hk1 : ∀ L, L < n → upd h n ⟨awm.cells, 38, 0, true⟩ L = h L := keep_upd (by omega) keep_refl
  have hl1 := lt_fresh (b := ⟨awm.cells, 38, 0, true⟩) hlt
  dsimp only [awm, Mot.cells] at hB1 hk1 hl1
  generalize upd h n _ = g1 at *
  refine Sat.sq ?_
  refine Sat.reg (by kernel_rfl) ?_
  simp -dsimp [hB1]
  have hro : RO (upd (upd g1 (n + 1) ⟨[.int .i64 0, .int .i64 0, .int .i64 0, .int .i64 500, .int .i64 (-200), .int .i64 0, .int .i64 40000, .int .i64 2, .int .i64 0], 38, 0, true⟩) (n + 1) ⟨[.int .i64 0, .int .i64 0, .int .i64 0, .int .i64 500, .int .i64 (-200), .int .i64 0, .int .i64 40000, .int .i64 2, .int .i64 0], 38, 0, false⟩) 9 (.slice (some ⟨n + 1, 0, none⟩) 1 1) (motCells [awm]) [awm].length :=
    ⟨rfl, _, _, rfl, (fun h => nomatch h), fun _ => ⟨_, _, rfl, by rw [upd_at, if_pos rfl], rfl, rfl, by simp, rfl⟩⟩
  have hrate : ∀ m ∈ [awm], 0 ≤ m.rate ∧ m.rate ≤ 9223372036854775807 := by decide
  refine (Spec.freeze (n + 1) (by rw [upd_at, if_pos rfl]) (w13 (S := 100) (A := 50) (J := 60) hro (by decide) (fun m hm => (hrate m hm).2) _)).onH ?_
  have hkF : ∀ L, L < n + 1 → upd (upd g1 (n + 1) ⟨[.int .i64 0, .int .i64 0, .int .i64 0, .int .i64 500, .int .i64 (-200), .int .i64 0, .int .i64 40000, .int .i64 2, .int .i64 0], 38, 0, true⟩) (n + 1) ⟨[.int .i64 0, .int .i64 0, .int .i64 0, .int .i64 500, .int .i64 (-200), .int .i64 0, .int .i64 40000, .int .i64 2, .int .i64 0], 38, 0, false⟩ L = g1 L := fun L hL => by rw [upd_at, if_neg (by omega), upd_at, if_neg (by omega)]
  dsimp only
  generalize upd (upd g1 (n + 1) _) (n + 1) _ = g2 at *
  rintro r h2 n2 ⟨hn2, hk2, ⟨hbad, _⟩ | ⟨_, C, hC, hC2, rfl, mv, pl, pv, hc⟩⟩
  · exact absurd awm_check hbad
  obtain ⟨hsolo, hbud⟩ := CS.Solo.new awm_check hrate
  have hcin : CAb (n + 1) h2 n2 C (CS.new 100 50 60 [awm]) := ⟨by omega, hC2, C, mv, pl, pv, hc, hC2, by omega⟩
  have hms : (CS.new 100 50 60 [awm]).ms = [awm] := rfl
  have hidx := awm_idx
  have hcost := awm_cost
  have hB2 : h2 n = some ⟨awm.cells, 38, 0, true⟩ := (hk2 n (by omega)).trans ((hkF n (by omega)).trans hB1)
  have hkk : ∀ L, L < n → h2 L = h L := fun L hL => (hk2 L (by omega)).trans ((hkF L (by omega)).trans (hk1 L hL))
  generalize CS.new 100 50 60 [awm] = s0 at *
  clear hc hkF hk2 hk1 hro hB1 hl1
  simp -dsimp
  refine Sat.sq ?_
  refine Sat.sq ?_
  refine Sat.reg (by kernel_rfl) ?_
  simp -dsimp
  refine Sat.cond (t := false) (by rfl) ?_
  refine Sat.skip ?_
  simp -dsimp
  refine Sat.sq ?_
  refine Sat.reg (by kernel_rfl) ?_
  simp -dsimp
  refine Sat.join (fun T h' n' => ∃ N : Nat, 0 < N ∧ N ≤ 2000 ∧ at35 C n N h T h' n' ∧ ∃ s, s.Solo ∧ s.ms = [awm] ∧ s.index = 1 ∧ CAb (n + 1) h' n' C s) ?_ ?_
  · refine Sat.block ?_
    refine Sat.loop (ι := Nat × CS) (fun i T h' n' => at35 C n i.1 h T h' n' ∧ i.2.Solo ∧ i.2.ms = [awm] ∧ i.1 + i.2.bud ≤ 2000 ∧ CAb (n + 1) h' n' C i.2 ∧ (i.1 = 0 → i.2 = s0)) (fun i => i.2.bud) (0, s0) ?_ ?_
    · exact ⟨⟨rfl, rfl, rfl, hB2, by omega, hkk⟩, hsolo, hms, by simp only; omega, hcin, fun _ => rfl⟩
    rintro ⟨k, s⟩ T h' n' ⟨⟨t1, t2, t4, hB, hn, hk⟩, hs, hm, hb, hc, h0⟩
    simp only at hs hm hb hc h0 t4
    refine Sat.sq ?_
    refine Sat.sq ?_
    refine Sat.reg (by kernel_rfl) ?_
    simp -dsimp [t2]
    refine (hc.tick hs.run (by have := hs.few; omega)).onH ?_
    rintro r h2 n2 ⟨rfl, hc2, hn2, hf2, hfr⟩
    have hlm : s.ms.length = 1 := by rw [hm]; rfl
    by_cases hi : s.index < s.ms.length
    · have hmv := hs.moves hi
      obtain ⟨hs2, hb2⟩ := hs.tick hi
      rw [hmv]
      have W : IntKind.i64.wrap ((k : Int) + 1) = (k : Int) + 1 := wrap_in (by omega) (by omega)
      have h2000 : ¬ (2000 : Int) < (k : Int) + 1 := by omega
      simp -dsimp
      refine Sat.cond (t := true) (by rfl) ?_
      refine Sat.skip ?_
      simp -dsimp
      refine Sat.block ?_
      refine Sat.sq ?_
      refine Sat.reg (by kernel_rfl) ?_
      simp -dsimp [t4, W]
      refine Sat.sq ?_
      refine Sat.reg (by kernel_rfl) ?_
      simp -dsimp [h2000]
      refine Sat.cond (t := false) (by rfl) ?_
      refine Sat.skip ?_
      simp -dsimp
      refine ⟨k + 1, s.tick, ⟨⟨by simp [t1, find], by simp [t2, find], by simp [find], (hfr n (by omega)).trans hB, by omega, fun L hL => (hfr L (by omega)).trans (hk L hL)⟩, hs2, (tick_eq s).1.trans hm, by omega, hc2, fun h => by omega⟩, by omega⟩
    · have hie : s.index = s.ms.length := by have := hs.run.ok.idx.2; omega
      have hmv : s.moves = false := by simp [CS.moves, hie]
      have hst : s.tick = s := by simp [CS.tick, hmv]
      rw [hst] at hc2
      rw [hmv]
      simp -dsimp
      refine Sat.cond (t := false) (by rfl) ?_
      refine Sat.exit ?_
      simp -dsimp
      refine ⟨k, ?_, by omega, ⟨by simp [t1, find], by simp [t2, find], by simp [t4, find], (hfr n (by omega)).trans hB, by omega, fun L hL => (hfr L (by omega)).trans (hk L hL)⟩, s, hs, hm, by omega, hc2⟩
      rcases Nat.eq_zero_or_pos k with hk0 | hk0
      · rw [h0 hk0, hms] at hie
        rw [hie] at hidx; omega
      · exact hk0
  rintro T h5 n5 ⟨N, hN0, hN1, ⟨t1, t2, t4, hB, hn, hk⟩, s, hs, hm, hi, hcA⟩
  refine Sat.lt fun hlt5 => ?_
  have hdn : s.done = [awm] := by rw [hs.end_ (by rw [hm, hi]; rfl), hm]; decide +kernel
  have hpos : s.pos = ⟨500, -200, 0⟩ := by unfold CS.pos; rw [hm, hi]; rfl
  obtain ⟨_, hCn, Lp, mv5, pl5, pv5, hc5, _, _⟩ := hcA
  obtain ⟨Ag, cg, eg⟩ := gcv_val n5 9 s.done.length
  obtain ⟨rd, hsame, hlt6⟩ := gc_ro (e := 38) hlt5 (motCells_length s.done)
  have hdone := w20 hc5 hs.run.ok (by have := hs.few; omega) n5 false
  generalize applyU h5 (gcu n5 38 (motCells s.done) s.done.length false) = h6 at *
  rw [eg] at rd hdone
  obtain ⟨hc6, _⟩ := hc5.same (n' := n5 + 1) hlt5 hsame (by omega)
  obtain ⟨F, _, hF⟩ := hc6.reads (g := 31) fun h2 n2 hc => w31 hc hs.run.ok n2
  rw [hpos] at hF
  rw [hdn] at rd hdone
  obtain ⟨B, o, sp, b, hBb, hbo, am⟩ := rd.mot (i := 0) (by omega) (by decide)
  have em : [awm][(0 : Int).toNat]! = awm := rfl
  rw [em, show [awm].length = 1 from rfl] at am
  have hB6 := (hsame n (by omega)).trans hB
  dsimp only [awm, Mot.cells] at hB6 am
  have hNp : (0 : Int) < N := by omega
  refine Sat.sq ?_
  refine Sat.reg (by kernel_rfl) ?_
  simp -dsimp [t2]
  refine hdone.useH ?_
  rw [show [awm].length = 1 from rfl]
  simp -dsimp
  refine Sat.sq ?_
  refine Sat.drw u35_11 mixed (by kernel_rfl) (by kernel_rfl) (by kernel_rfl) (by kernel_rfl) ?_
  simp -dsimp [t1, t2, t4, hNp, hN0, -indexAddrA, am.idx, ↓am.l38, hBb, hB6]
  refine callD.reads _ F hF ?_
  simp -dsimp [t1, hB6]
  refine Sat.ret ?_
  try simp -dsimp only [thenH_ret, blockA_ret, thenA_ret]
  refine PureQ.ret (r := .bool true) (by rfl) (fun L hL => ?_) (by rfl)
  rw [hsame L (by omega)]; exact hk L hL

end Go.Proofs.Ytoinimkmoojcoaa
/- Walks, part T6. -/
set_option maxRecDepth 100000
set_option maxHeartbeats 4000000
set_option linter.unusedSimpArgs false
set_option linter.unusedVariables false
namespace Go.Proofs.Ytoinimkmoojcoaa
open Go Go.Dm
attribute [local simp ↓] RunS_nil RunS_op RunS_guard RunT_nil RunT_op RunT_guard opS_call opD_call opS_move opD_move opS_assign opD_assign opS_pick opD_pick opS_nilCheck opD_nilCheck opS_fieldAddr opD_fieldAddr opS_indexAddr opD_indexAddr opS_load opD_load opS_store opD_store opS_alloc opD_alloc opS_box opD_box opS_build opD_build opS_buildSlice opD_buildSlice opS_field opD_field opS_extract opD_extract opS_makeFunc opD_makeFunc opS_slice opD_slice opS_binOp opD_binOp opS_unOp opD_unOp opS_convert opD_convert opS_index opD_index opS_len opD_len opS_append opD_append opS_max opD_max opS_min opD_min obind_some obind_none thenH_normal thenH_ret thenH_exit blockA_normal blockA_ret blockA_exit thenA_normal thenA_ret thenA_exit dstAt_mk dstL_zero dstL_succ
attribute [local simp] undef wantG_bool wantG_undef findO_some calleeS find putA ev closed3 closed2 closed1 closed0 pickA binF unF convF mxF eqNilA fastBin fastUn fastConv intBin argEnv resultsA resultsL resultA notTuple allocs eff
  loadO storeO allocO boxO sliceO indexO indexAddrA loadA storeA newA isAggT nilCheckA lenA evAll evParts aadd gen upd_at upd_upd Value.cells mxV Pairs apart readsS labOf putAt fieldA partA extractA makeFuncA evOpt boundOf sliceA Nat.add_assoc
attribute [local simp] bu107_z bu107_0_1 bu25_0_1_2 bu36_z bu36_0_1 bu36_0_1_2 bu36_0 bu38_z bu38_0_1_2_3_4 bu38_0_1_3 bu38_0_1_3_4 bu38_1_2 bu38_1_2_3 bu52_0_1_10 bu81_0_1 bs22_0_z bs22_1_0 bs22_2_0_1 bs39_1_0 bs39_7_0_1_2_3_4_5_6 bs95_4_0_1_2_3
attribute [local simp ↓] eql107 neq107 eql36 neq36 eql38 neq38 eql25 neq25
attribute [local simp] fa25_0 fa25_1 fa25_2 fa36_0 fa36_1 fa36_2 fa38_0 fa38_1 fa38_2 fa38_3 fa38_4 fa107_0 fa107_1 fa81_0 fa81_1 fa81_2 fa81_3 fa81_4 fa81_5 fa81_6 fa81_7 fa81_8 fa81_9 fa81_10 fa52_0 fa52_1 fa52_2 fa52_3 fa52_4 fa52_5 fa52_6 fa52_7 fa52_8 fa52_9 fa52_10 fa52_11 fa52_12
attribute [local simp] c22 c39 c29 z22 z39 c25 c38 c2 c3 c4 c36 c107 c30 z25 z38 z2 z3 z4 z36 z107 b38 b25 b107 h38 h25 h36 h107 g38 g25 g36 g107 Try.underlying25 Try.underlying38 Try.underlying2 Try.underlying3 Try.underlying4 Try.underlying36 Try.underlying22 Try.underlying39 Try.underlying29 Try.underlying81 Try.underlying107 Try.underlying30
attribute [local simp] mx mn
theorem fa66_0 (a : Addr) : fieldAddrA Try.prog 66 (some (.pointer (some a))) 0 = some (.pointer (some (aadd a 0))) := by simp [fieldAddrA, Try.underlying66, c2]
theorem fa66_1 (a : Addr) : fieldAddrA Try.prog 66 (some (.pointer (some a))) 1 = some (.pointer (some (aadd a 1))) := by simp [fieldAddrA, Try.underlying66, c2]
theorem fa66_2 (a : Addr) : fieldAddrA Try.prog 66 (some (.pointer (some a))) 2 = some (.pointer (some (aadd a 2))) := by simp [fieldAddrA, Try.underlying66, c2]
theorem fa68_0 (a : Addr) : fieldAddrA Try.prog 68 (some (.pointer (some a))) 0 = some (.pointer (some (aadd a 0))) := by simp [fieldAddrA, Try.underlying68, c64]
theorem fa68_1 (a : Addr) : fieldAddrA Try.prog 68 (some (.pointer (some a))) 1 = some (.pointer (some (aadd a 3))) := by simp [fieldAddrA, Try.underlying68, c65]
theorem fa68_2 (a : Addr) : fieldAddrA Try.prog 68 (some (.pointer (some a))) 2 = some (.pointer (some (aadd a 4))) := by simp [fieldAddrA, Try.underlying68, c66]
attribute [local simp] fa66_0 fa66_1 fa66_2 fa68_0 fa68_1 fa68_2
attribute [local simp] c66 z66 b66 h66 g66 Try.underlying66 c68 z68 Try.underlying68 c63 c64 c65 c103 Try.underlying63 Try.underlying64 Try.underlying65 Try.underlying103
theorem w85 (a b c : Int) : Pure Try.prog 85 [.int .i64 a, .int .i64 b, .int .i64 c] (.bool (withinB a b c)) := by
  refine Pure.of_body Try.func85 rfl (by kernel_rfl) Try.ntmps85 (by rw [Try.results85]) (Nat.le_of_ble_eq_true rfl) fun h n => ?_
  refine Sat.sq ?_
  refine Sat.reg (by kernel_rfl) ?_
  simp -dsimp
  refine Sat.sq ?_
  refine Sat.reg (by kernel_rfl) ?_
  by_cases hb : b ≤ a
  · simp -dsimp [hb]
    refine Sat.ret (PureQ.ret rfl keep_refl ?_)
    simp -dsimp [withinB, hb]
  · simp -dsimp [hb]
    refine Sat.ret (PureQ.ret rfl keep_refl ?_)
    simp -dsimp [withinB, hb]
theorem w72 (S A j : Int) : Pure Try.prog 72 [.agg #[.int .i64 S, .int .i64 A, .int .i64 j]] (.int .i64 (if validM S A j then 0 else 1)) := by
  refine Pure.of_body Try.func72 rfl (by kernel_rfl) Try.ntmps72 (by rw [Try.results72]) (Nat.le_of_ble_eq_true rfl) fun h n => ?_
  refine Sat.sq ?_
  refine Sat.reg (by kernel_rfl) ?_
  simp -dsimp
  refine Sat.sq ?_
  refine Sat.sq ?_
  refine Sat.reg (by kernel_rfl) ?_
  cases c1 : withinB S 1 100000
  · simp -dsimp
    refine (w85 ..).useH ?_
    simp -dsimp [c1]
    refine Sat.cond (t := true) (by rfl) ?_
    refine Sat.sq ?_
    refine Sat.reg (by kernel_rfl) ?_
    simp -dsimp
    refine Sat.ret ?_
    try simp -dsimp only [thenH_ret, blockA_ret, thenA_ret]
    rw [show validM S A j = false by simp [validM, c1]]
    refine PureQ.ret rfl ?_ rfl
    exact keep_upd (by omega) keep_refl
  cases c2 : withinB A 1 100000
  · simp -dsimp
    refine (w85 ..).useH ?_
    simp -dsimp [c1]
    refine (w85 ..).useH ?_
    simp -dsimp [c2]
    refine Sat.cond (t := true) (by rfl) ?_
    refine Sat.sq ?_
    refine Sat.reg (by kernel_rfl) ?_
    simp -dsimp
    refine Sat.ret ?_
    try simp -dsimp only [thenH_ret, blockA_ret, thenA_ret]
    rw [show validM S A j = false by simp [validM, c1, c2]]
    refine PureQ.ret rfl ?_ rfl
    exact keep_upd (by omega) keep_refl
  simp -dsimp
  refine (w85 ..).useH ?_
  simp -dsimp [c1]
  refine (w85 ..).useH ?_
  simp -dsimp [c2]
  refine (w85 ..).useH ?_
  cases c3 : withinB j 2 100000
  · simp -dsimp
    refine Sat.cond (t := true) (by rfl) ?_
    refine Sat.sq ?_
    refine Sat.reg (by kernel_rfl) ?_
    simp -dsimp
    refine Sat.ret ?_
    try simp -dsimp only [thenH_ret, blockA_ret, thenA_ret]
    rw [show validM S A j = false by simp [validM, c1, c2, c3]]
    refine PureQ.ret rfl ?_ rfl
    exact keep_upd (by omega) keep_refl
  · simp -dsimp
    refine Sat.cond (t := false) (by rfl) ?_
    refine Sat.skip ?_
    simp -dsimp
    refine Sat.sq ?_
    refine Sat.reg (by kernel_rfl) ?_
    simp -dsimp
    refine Sat.ret ?_
    try simp -dsimp only [thenH_ret, blockA_ret, thenA_ret]
    rw [show validM S A j = true by simp [validM, c1, c2, c3]]
    refine PureQ.ret rfl ?_ rfl
    exact keep_upd (by omega) keep_refl

end Go.Proofs.Ytoinimkmoojcoaa
/- Walks, part T7. -/
set_option maxRecDepth 100000
set_option maxHeartbeats 4000000
set_option linter.unusedSimpArgs false
set_option linter.unusedVariables false
namespace Go.Proofs.Ytoinimkmoojcoaa
open Go Go.Dm
attribute [local simp ↓] RunS_nil RunS_op RunS_guard RunT_nil RunT_op RunT_guard opS_call opD_call opS_move opD_move opS_assign opD_assign opS_pick opD_pick opS_nilCheck opD_nilCheck opS_fieldAddr opD_fieldAddr opS_indexAddr opD_indexAddr opS_load opD_load opS_store opD_store opS_alloc opD_alloc opS_box opD_box opS_build opD_build opS_buildSlice opD_buildSlice opS_field opD_field opS_extract opD_extract opS_makeFunc opD_makeFunc opS_slice opD_slice opS_binOp opD_binOp opS_unOp opD_unOp opS_convert opD_convert opS_index opD_index opS_len opD_len opS_append opD_append opS_max opD_max opS_min opD_min obind_some obind_none thenH_normal thenH_ret thenH_exit blockA_normal blockA_ret blockA_exit thenA_normal thenA_ret thenA_exit dstAt_mk dstL_zero dstL_succ
attribute [local simp] undef wantG_bool wantG_undef findO_some calleeS find putA ev closed3 closed2 closed1 closed0 pickA binF unF convF mxF eqNilA fastBin fastUn fastConv intBin argEnv resultsA resultsL resultA notTuple allocs eff
  loadO storeO allocO boxO sliceO indexO indexAddrA loadA storeA newA isAggT nilCheckA lenA evAll evParts aadd gen upd_at upd_upd Value.cells mxV Pairs apart readsS labOf putAt fieldA partA extractA makeFuncA evOpt boundOf sliceA Nat.add_assoc
attribute [local simp] bu107_z bu107_0_1 bu25_0_1_2 bu36_z bu36_0_1 bu36_0_1_2 bu36_0 bu38_z bu38_0_1_2_3_4 bu38_0_1_3 bu38_0_1_3_4 bu38_1_2 bu38_1_2_3 bu52_0_1_10 bu81_0_1 bs22_0_z bs22_1_0 bs22_2_0_1 bs39_1_0 bs39_7_0_1_2_3_4_5_6 bs95_4_0_1_2_3
attribute [local simp ↓] eql107 neq107 eql36 neq36 eql38 neq38 eql25 neq25
attribute [local simp] fa25_0 fa25_1 fa25_2 fa36_0 fa36_1 fa36_2 fa38_0 fa38_1 fa38_2 fa38_3 fa38_4 fa107_0 fa107_1 fa81_0 fa81_1 fa81_2 fa81_3 fa81_4 fa81_5 fa81_6 fa81_7 fa81_8 fa81_9 fa81_10 fa52_0 fa52_1 fa52_2 fa52_3 fa52_4 fa52_5 fa52_6 fa52_7 fa52_8 fa52_9 fa52_10 fa52_11 fa52_12
attribute [local simp] c22 c39 c29 z22 z39 c25 c38 c2 c3 c4 c36 c107 c30 z25 z38 z2 z3 z4 z36 z107 b38 b25 b107 h38 h25 h36 h107 g38 g25 g36 g107 Try.underlying25 Try.underlying38 Try.underlying2 Try.underlying3 Try.underlying4 Try.underlying36 Try.underlying22 Try.underlying39 Try.underlying29 Try.underlying81 Try.underlying107 Try.underlying30
attribute [local simp] mx mn
attribute [local simp] fa66_0 fa66_1 fa66_2 fa68_0 fa68_1 fa68_2
attribute [local simp] c66 z66 b66 h66 g66 Try.underlying66 c68 z68 Try.underlying68 c63 c64 c65 c103 z103 z63 Try.underlying63 Try.underlying64 Try.underlying65 Try.underlying103
structure Way where
  a : Int
  b : Int
  c : Int
  d : Int
instance : Inhabited Way := ⟨⟨0, 0, 0, 0⟩⟩
def Way.cells (w : Way) : List Value := [.int .i16 w.a, .int .i16 w.b, .int .i16 w.c, .int .i16 w.d]
def wayCells (ws : List Way) : List Value := ws.flatMap Way.cells
def i16 (x : Int) : Prop := -32768 ≤ x ∧ x ≤ 32767
def Way.Fit (w : Way) : Prop := i16 w.a ∧ i16 w.b ∧ i16 w.c ∧ i16 w.d
def rateT (d : Int) : Int := if 0 < 1000 * max 0 d then max 20000 (1000 * max 0 d) else 1000 * max 0 d
def motT (p : P3) (w : Way) (i : Nat) : Mot := ⟨p.x, p.y, p.z, p.x + w.a.tmod 600, p.y + w.b.tmod 600, p.z + w.c.tmod 600, rateT w.d, 1 + (i : Int) / 2, i⟩
def motsT : List Way → P3 → Nat → List Mot
  | [], _, _ => []
  | w :: ws, p, i => motT p w i :: motsT ws (motT p w i).to (i + 1)
def okT (S A J : Int) (ws : List Way) : Bool := decide (ws.length ≤ 6) && validM S A J && decide (20 ≤ S) && decide (20 ≤ A) && decide (40 ≤ J)
abbrev tripV (x y z : Int) (wv : Value) (S A J : Int) : Value := .agg #[.int .i16 x, .int .i16 y, .int .i16 z, wv, .int .i64 S, .int .i64 A, .int .i64 J]
def tripPost (p : P3) (ws : List Way) (S A J : Int) (h : Heap) (n : Nat) (r : Value) (h' : Heap) (n' : Nat) : Prop :=
  n ≤ n' ∧ (∀ L, L < n → h' L = h L) ∧ ((okT S A J ws = false ∧ r = .tuple #[.slice none 0 0, limV S A J, .bool false]) ∨ (okT S A J ws = true ∧ ∃ lv, r = .tuple #[lv, limV S A J, .bool true] ∧ GS h' 38 9 lv (motCells (motsT ws p 0)) (motsT ws p 0).length n n'))
def at34 (h g4 : Heap) (n : Nat) (Aw : Option Addr) (cw : Nat) (ws : List Way) (S A J : Int) (T : TEnv) (h' : Heap) (n' : Nat) : Prop :=
  find T 1 = some (.pointer (some ⟨n, 0, none⟩)) ∧ find T 3 = some (.pointer (some ⟨n + 1, 0, none⟩)) ∧ find T 5 = some (.pointer (some ⟨n + 2, 0, none⟩)) ∧ find T 6 = some (.pointer (some ⟨n + 3, 0, none⟩)) ∧ h' = g4 ∧ n' = n + 4 ∧ okT S A J ws = true
theorem wayCells_length (l : List Way) : (wayCells l).length = l.length * 4 := by
  induction l with
  | nil => rfl
  | cons m l ih => simp only [wayCells, List.flatMap_cons, List.length_append] at *; rw [ih]; simp [Way.cells]; omega
theorem wayCells_at : ∀ (l : List Way) (i : Nat) (hi : i < l.length), ((wayCells l).drop (i * 4)).take 4 = l[i].cells
  | m :: l, 0, _ => by simp [wayCells, Way.cells]
  | m :: l, i + 1, hi => by
    have := wayCells_at l i (by simpa using hi)
    simp only [wayCells, List.flatMap_cons] at *
    rw [List.drop_append, List.drop_eq_nil_of_le (by simp [Way.cells]; omega)]
    rw [show (i + 1) * 4 - m.cells.length = i * 4 by simp [Way.cells]; omega]
    simpa using this
theorem RO.way {h : Heap} {s : Value} {l : List Way} (hr : RO h 4 s (wayCells l) l.length) {j : Nat} (hj : j < l.length) :
    ∃ B o sp b, h B = some b ∧ b.own = false ∧ indexAddrA Try.prog 65 (some s) (some (.int .i64 j)) = some (.pointer (some ⟨B, o, sp⟩)) ∧ ∀ h' : Heap, h' B = some b → loadA Try.prog h' 103 ⟨B, o, sp⟩ = some (.agg #[.int .i16 (l[j]!).a, .int .i16 (l[j]!).b, .int .i16 (l[j]!).c, .int .i16 (l[j]!).d]) := by
  have eg : l[j]! = l[j] := by simp [hj]
  rw [eg]
  obtain ⟨⟨B, o, sp⟩, c, b, rfl, hB, ho, hg, hlen, hcells⟩ := hr.at hj
  rw [wayCells_at l j hj] at hcells
  simp only at hB hg hlen hcells
  refine ⟨B, o + j * 4, sp, b, hB, ho, by simp -dsimp [hj], ?_⟩
  intro h' hh
  unfold loadA
  simp only [Try.underlying103, hh, hg, gen, isAggT, c103, if_true]
  rw [if_pos ⟨by omega, by omega⟩, hcells]; rfl
theorem tm600 (a : Int) : -600 < a.tmod 600 ∧ a.tmod 600 < 600 := by
  have p : ∀ b : Int, 0 ≤ b → 0 ≤ b.tmod 600 ∧ b.tmod 600 < 600 := fun b hb => by
    rw [Int.tmod_eq_emod_of_nonneg hb]; omega
  rcases Int.le_total 0 a with h | h
  · have := p a h; omega
  · have := p (-a) (by omega)
    rw [Int.neg_tmod] at this; omega
def inP (p : P3) (i : Nat) : Prop := (-32768 - 600 * (i : Int) ≤ p.x ∧ p.x ≤ 32767 + 600 * (i : Int)) ∧ (-32768 - 600 * (i : Int) ≤ p.y ∧ p.y ≤ 32767 + 600 * (i : Int)) ∧ (-32768 - 600 * (i : Int) ≤ p.z ∧ p.z ≤ 32767 + 600 * (i : Int))
theorem motT_in {p : P3} {w : Way} {i : Nat} (h : inP p i) : inP (motT p w i).to (i + 1) := by
  have := tm600 w.a; have := tm600 w.b; have := tm600 w.c
  unfold inP at *
  simp only [motT, Mot.to]
  push_cast
  omega
def at34l (h : Heap) (n : Nat) (Aw : Option Addr) (cw : Nat) (ws : List Way) (S A J : Int) (p0 : P3) (i k : Nat) (T : TEnv) (h' : Heap) (n' : Nat) : Prop :=
  find T 3 = some (.pointer (some ⟨n + 1, 0, none⟩)) ∧ find T 5 = some (.pointer (some ⟨n + 2, 0, none⟩)) ∧ find T 6 = some (.pointer (some ⟨n + 3, 0, none⟩)) ∧ find T 62 = some (.slice Aw ws.length cw) ∧ find T 63 = some (.int .i64 ws.length) ∧ find T 64 = some (.int .i64 i) ∧
  n + 4 ≤ n' ∧ (∀ L, L < n → h' L = h L) ∧ h' (n + 1) = some ⟨[.int .i64 0, .int .i64 0, .int .i64 0], 25, 0, true⟩ ∧ h' (n + 3) = some ⟨[.int .i64 S, .int .i64 A, .int .i64 J], 25, 0, true⟩ ∧
  ∃ p dn s, h' (n + 2) = some ⟨[.int .i64 p.x, .int .i64 p.y, .int .i64 p.z], 36, 0, true⟩ ∧ find T 7 = some s ∧ GS h' 38 9 s (motCells dn) dn.length (n + 4) n' ∧ dn.length = k ∧ dn ++ motsT (ws.drop k) p k = motsT ws p0 0 ∧ inP p k
abbrev u34_4 : List (Nat × Nat) := []
abbrev u34_10 : List (Nat × Nat) := [(0, 3), (3, 5), (0, 14), (1, 14), (2, 14), (3, 14), (5, 14)]
abbrev u34_16 : List (Nat × Nat) := []
theorem w34raw {h : Heap} {x y z S A J : Int} {wv : Value} {ws : List Way} (hx : i16 x ∧ i16 y ∧ i16 z) (hw : RO h 4 wv (wayCells ws) ws.length) (hf : ∀ w ∈ ws, w.Fit) (few : ws.length ≤ 9223372036854775807) (n : Nat) :
    Dm.Spec Try.prog 34 [tripV x y z wv S A J] h n (tripPost ⟨x, y, z⟩ ws S A J h n) := by
  refine Spec.body Try.func34 rfl (by kernel_rfl) Try.ntmps34 (by rw [Try.results34]) (Nat.le_of_ble_eq_true rfl) ?_
  refine Sat.lt fun hlt => ?_
  obtain ⟨Aw, cw, rfl⟩ := hw.len
  unfold i16 at hx
  refine Sat.sq ?_
  refine Sat.reg (by kernel_rfl) ?_
  simp -dsimp
  refine Sat.sq ?_
  refine Sat.reg (by kernel_rfl) ?_
  simp -dsimp
  refine Sat.sq ?_
  refine Sat.reg (by kernel_rfl) ?_
  simp -dsimp
  have W1 : IntKind.i64.wrap x = x := wrap_in (by omega) (by omega)
  have W2 : IntKind.i64.wrap y = y := wrap_in (by omega) (by omega)
  have W3 : IntKind.i64.wrap z = z := wrap_in (by omega) (by omega)
  rw [W1, W2, W3]
  have hk4 : ∀ L, L < n → upd (upd (upd (upd h n ⟨[.int .i16 x, .int .i16 y, .int .i16 z, .slice Aw ws.length cw, .int .i64 S, .int .i64 A, .int .i64 J], 68, 0, true⟩) (n + 1) ⟨[.int .i64 0, .int .i64 0, .int .i64 0], 25, 0, true⟩) (n + 2) ⟨[.int .i64 x, .int .i64 y, .int .i64 z], 36, 0, true⟩) (n + 3) ⟨[.int .i64 S, .int .i64 A, .int .i64 J], 25, 0, true⟩ L = h L := fun L hL => by simp only [upd_at]; rw [if_neg (by omega), if_neg (by omega), if_neg (by omega), if_neg (by omega)]
  have b0 : upd (upd (upd (upd h n ⟨[.int .i16 x, .int .i16 y, .int .i16 z, .slice Aw ws.length cw, .int .i64 S, .int .i64 A, .int .i64 J], 68, 0, true⟩) (n + 1) ⟨[.int .i64 0, .int .i64 0, .int .i64 0], 25, 0, true⟩) (n + 2) ⟨[.int .i64 x, .int .i64 y, .int .i64 z], 36, 0, true⟩) (n + 3) ⟨[.int .i64 S, .int .i64 A, .int .i64 J], 25, 0, true⟩ n = some ⟨[.int .i16 x, .int .i16 y, .int .i16 z, .slice Aw ws.length cw, .int .i64 S, .int .i64 A, .int .i64 J], 68, 0, true⟩ := by simp only [upd_at]; rw [if_neg (by omega), if_neg (by omega), if_neg (by omega), if_pos trivial]
  have b1 : upd (upd (upd (upd h n ⟨[.int .i16 x, .int .i16 y, .int .i16 z, .slice Aw ws.length cw, .int .i64 S, .int .i64 A, .int .i64 J], 68, 0, true⟩) (n + 1) ⟨[.int .i64 0, .int .i64 0, .int .i64 0], 25, 0, true⟩) (n + 2) ⟨[.int .i64 x, .int .i64 y, .int .i64 z], 36, 0, true⟩) (n + 3) ⟨[.int .i64 S, .int .i64 A, .int .i64 J], 25, 0, true⟩ (n + 1) = some ⟨[.int .i64 0, .int .i64 0, .int .i64 0], 25, 0, true⟩ := by simp only [upd_at]; rw [if_neg (by omega), if_neg (by omega), if_pos trivial]
  have b2 : upd (upd (upd (upd h n ⟨[.int .i16 x, .int .i16 y, .int .i16 z, .slice Aw ws.length cw, .int .i64 S, .int .i64 A, .int .i64 J], 68, 0, true⟩) (n + 1) ⟨[.int .i64 0, .int .i64 0, .int .i64 0], 25, 0, true⟩) (n + 2) ⟨[.int .i64 x, .int .i64 y, .int .i64 z], 36, 0, true⟩) (n + 3) ⟨[.int .i64 S, .int .i64 A, .int .i64 J], 25, 0, true⟩ (n + 2) = some ⟨[.int .i64 x, .int .i64 y, .int .i64 z], 36, 0, true⟩ := by simp only [upd_at]; rw [if_neg (by omega), if_pos trivial]
  have b3 : upd (upd (upd (upd h n ⟨[.int .i16 x, .int .i16 y, .int .i16 z, .slice Aw ws.length cw, .int .i64 S, .int .i64 A, .int .i64 J], 68, 0, true⟩) (n + 1) ⟨[.int .i64 0, .int .i64 0, .int .i64 0], 25, 0, true⟩) (n + 2) ⟨[.int .i64 x, .int .i64 y, .int .i64 z], 36, 0, true⟩) (n + 3) ⟨[.int .i64 S, .int .i64 A, .int .i64 J], 25, 0, true⟩ (n + 3) = some ⟨[.int .i64 S, .int .i64 A, .int .i64 J], 25, 0, true⟩ := by simp only [upd_at]; rw [if_pos trivial]
  generalize upd (upd (upd (upd h n _) (n + 1) _) (n + 2) _) (n + 3) _ = g4 at *
  have hk4' : ∀ L, L < n → upd g4 (n + 1) ⟨[.int .i64 S, .int .i64 A, .int .i64 J], 25, 0, true⟩ L = h L := fun L hL => by rw [upd_at, if_neg (by omega)]; exact hk4 L hL
  have bad : okT S A J ws = false → ∀ g p, n ≤ p → (∀ L, L < n → g L = h L) → tripPost ⟨x, y, z⟩ ws S A J h n (.tuple #[.slice none 0 0, limV S A J, .bool false]) g p := fun hb g p hp hs => ⟨hp, hs, .inl ⟨hb, rfl⟩⟩
  refine Sat.join (at34 h g4 n Aw cw ws S A J) ?_ ?_
  rotate_left
  · clear bad hk4'
    rintro T g5 n5 ⟨t1, t3, t5, t6, rfl, rfl, hok⟩
    have h6 : ws.length ≤ 6 := by simp only [okT, Bool.and_eq_true, decide_eq_true_eq] at hok; omega
    refine Sat.sq ?_
    refine Sat.reg (by kernel_rfl) ?_
    simp -dsimp
    refine Sat.join (at34l h n Aw cw ws S A J ⟨x, y, z⟩ ws.length ws.length) ?_ ?_
    · refine Sat.sq ?_
      refine Sat.reg (by kernel_rfl) ?_
      simp -dsimp [t1, b0]
      refine Sat.block ?_
      refine Sat.loop (ι := Nat) (fun i T h' n' => at34l h n Aw cw ws S A J ⟨x, y, z⟩ i i T h' n' ∧ i ≤ ws.length) (fun i => ws.length - i) 0 ?_ ?_
      · refine ⟨⟨by simp [t3, find], by simp [t5, find], by simp [t6, find], rfl, rfl, rfl, by omega, hk4, b1, b3, ⟨x, y, z⟩, [], .slice none 0 0, b2, rfl, .nil, rfl, rfl, ?_⟩, by simp⟩
        unfold inP; simp; omega
      clear t1 t3 t5 t6 b0 b1 b2 b3 hk4
      rintro i T h' n' ⟨⟨t3, t5, t6, t62, t63, t64, hn, hk, b1, b3, p, dn, s, b2, t7, hg, hdl, hdn, hin⟩, hi⟩
      refine Sat.sq ?_
      refine Sat.reg (by kernel_rfl) ?_
      simp -dsimp [t63, t64]
      refine Sat.sq ?_
      refine Sat.ite rfl (fun hq => ?_) (fun hq => ?_)
      rotate_left
      · have hq : ¬ i < ws.length := by simpa using hq
        have e : i = ws.length := by omega
        subst e
        refine Sat.exit ?_
        simp -dsimp
        exact ⟨t3, t5, t6, t62, t63, t64, hn, hk, b1, b3, p, dn, s, b2, t7, hg, hdl, hdn, hin⟩
      have hq : i < ws.length := by simpa using hq
      have hw' : RO h' 4 (.slice Aw ws.length cw) (wayCells ws) ws.length := hw.fz fun L b x _ => by rw [hk L (hlt L b x)]; exact x
      obtain ⟨B, o, sp, bb, hB, hbo, idx, ld⟩ := hw'.way hq
      have hwf := hf _ (by rw [getElem!_pos ws i hq]; exact List.getElem_mem _ : ws[i]! ∈ ws)
      have hnext := motT_in (w := ws[i]!) hin
      have hdrop : motsT (ws.drop i) p i = motT p (ws[i]!) i :: motsT (ws.drop (i + 1)) (motT p (ws[i]!) i).to (i + 1) := by
        rw [List.drop_eq_getElem_cons hq, getElem!_pos ws i hq]; rfl
      generalize ws[i]! = w at *
      have ta := tm600 w.a
      have tb := tm600 w.b
      have tc := tm600 w.c
      have hwd := hwf.2.2.2
      unfold i16 at hwd
      have Wa : IntKind.i64.wrap (w.a.tmod 600) = w.a.tmod 600 := wrap_in (by omega) (by omega)
      have Wb : IntKind.i64.wrap (w.b.tmod 600) = w.b.tmod 600 := wrap_in (by omega) (by omega)
      have Wc : IntKind.i64.wrap (w.c.tmod 600) = w.c.tmod 600 := wrap_in (by omega) (by omega)
      have Wd : IntKind.i64.wrap w.d = w.d := wrap_in (by omega) (by omega)
      refine Sat.skip ?_
      simp -dsimp
      refine Sat.join (at34l h n Aw cw ws S A J ⟨x, y, z⟩ i (i + 1)) ?_ ?_
      rotate_left
      · rintro T2 h2 n2 ⟨t3, t5, t6, t62, t63, t64, hn, hk, b1, b3, p, dn, s, b2, t7, hg, hdl, hdn, hin⟩
        have W : IntKind.i64.wrap ((i : Int) + 1) = (i : Int) + 1 := wrap_in (by omega) (by omega)
        refine Sat.reg (by kernel_rfl) ?_
        simp -dsimp [t64, W]
        exact ⟨i + 1, ⟨⟨by simp [t3, find], by simp [t5, find], by simp [t6, find], by simp [t62, find], by simp [t63, find], rfl, hn, hk, b1, b3, p, dn, s, b2, by simp [t7, find], hg, hdl, hdn, hin⟩, by omega⟩, by omega⟩
      refine Sat.block ?_
      refine Sat.sq ?_
      refine Sat.reg (by kernel_rfl) ?_
      simp -dsimp [t62, t64, -indexAddrA, idx, ↓ld, hB]
      refine Sat.sq ?_
      refine Sat.reg (by kernel_rfl) ?_
      simp -dsimp [Wa, Wb, Wc]
      have hX : ∀ L, L < n' → upd (upd h' n' ⟨[.int .i16 w.a, .int .i16 w.b, .int .i16 w.c, .int .i16 w.d], 103, 0, true⟩) (n' + 1) ⟨[.int .i64 (w.a.tmod 600), .int .i64 (w.b.tmod 600), .int .i64 (w.c.tmod 600)], 36, 0, true⟩ L = h' L := fun L hL => by rw [upd_at, if_neg (by omega), upd_at, if_neg (by omega)]
      have x0 : upd (upd h' n' ⟨[.int .i16 w.a, .int .i16 w.b, .int .i16 w.c, .int .i16 w.d], 103, 0, true⟩) (n' + 1) ⟨[.int .i64 (w.a.tmod 600), .int .i64 (w.b.tmod 600), .int .i64 (w.c.tmod 600)], 36, 0, true⟩ n' = some ⟨[.int .i16 w.a, .int .i16 w.b, .int .i16 w.c, .int .i16 w.d], 103, 0, true⟩ := by rw [upd_at, if_neg (by omega), upd_at, if_pos rfl]
      have x1 : upd (upd h' n' ⟨[.int .i16 w.a, .int .i16 w.b, .int .i16 w.c, .int .i16 w.d], 103, 0, true⟩) (n' + 1) ⟨[.int .i64 (w.a.tmod 600), .int .i64 (w.b.tmod 600), .int .i64 (w.c.tmod 600)], 36, 0, true⟩ (n' + 1) = some ⟨[.int .i64 (w.a.tmod 600), .int .i64 (w.b.tmod 600), .int .i64 (w.c.tmod 600)], 36, 0, true⟩ := by rw [upd_at, if_pos rfl]
      generalize upd (upd h' n' _) (n' + 1) _ = g7 at *
      have c1 := (hX (n + 1) (by omega)).trans b1
      have c2 := (hX (n + 2) (by omega)).trans b2
      have c3 := (hX (n + 3) (by omega)).trans b3
      have hg7 : GS g7 38 9 s (motCells dn) dn.length (n + 4) n' := hg.frame (fun L h1 h3 => hX L h3) (Nat.le_refl _)
      have hk7 : ∀ L, L < n → g7 L = h L := fun L hL => (hX L (by omega)).trans (hk L hL)
      have hin' := hin
      unfold inP at hin'
      have Wm : IntKind.i64.wrap (1000 * max 0 w.d) = 1000 * max 0 w.d := wrap_in (by omega) (by omega)
      have hq2 : (i : Int).tdiv 2 = (i : Int) / 2 := Int.tdiv_eq_ediv_of_nonneg (by omega)
      have Wq : IntKind.i64.wrap ((i : Int) / 2) = (i : Int) / 2 := wrap_in (by omega) (by omega)
      have Wp : IntKind.i64.wrap (1 + (i : Int) / 2) = 1 + (i : Int) / 2 := wrap_in (by omega) (by omega)
      refine Sat.sq ?_
      refine Sat.drw u34_10 mixed (by kernel_rfl) (by kernel_rfl) (by kernel_rfl) (by kernel_rfl) ?_
      simp -dsimp [t5, c2, x1]
      refine callD.pure (w73 _ _ _ _ _ _ ⟨by unfold okc; omega, by unfold okc; omega, by unfold okc; omega⟩ ⟨by unfold okc; omega, by unfold okc; omega, by unfold okc; omega⟩) ?_
      have nn2 := ne2 (show n + 2 < n' + 2 by omega)
      simp -dsimp [x0, Wd, Wm, hq2, Wq, Wp, t5, nn2]
      refine ⟨by omega, ?_⟩
      have y0 : ∀ r, upd g7 (n' + 2) ⟨[.int .i64 p.x, .int .i64 p.y, .int .i64 p.z, .int .i64 (p.x + w.a.tmod 600), .int .i64 (p.y + w.b.tmod 600), .int .i64 (p.z + w.c.tmod 600), .int .i64 r, .int .i64 (1 + (i : Int) / 2), .int .i64 i], 38, 0, true⟩ (n' + 2) = some ⟨[.int .i64 p.x, .int .i64 p.y, .int .i64 p.z, .int .i64 (p.x + w.a.tmod 600), .int .i64 (p.y + w.b.tmod 600), .int .i64 (p.z + w.c.tmod 600), .int .i64 r, .int .i64 (1 + (i : Int) / 2), .int .i64 i], 38, 0, true⟩ := fun r => by rw [upd_at, if_pos rfl]
      refine Sat.join (fun T' h'' n'' => find T' 3 = some (.pointer (some ⟨n + 1, 0, none⟩)) ∧ find T' 5 = some (.pointer (some ⟨n + 2, 0, none⟩)) ∧ find T' 6 = some (.pointer (some ⟨n + 3, 0, none⟩)) ∧ find T' 62 = some (.slice Aw ws.length cw) ∧ find T' 63 = some (.int .i64 ws.length) ∧ find T' 64 = some (.int .i64 i) ∧ find T' 7 = some s ∧ find T' 11 = some (.pointer (some ⟨n' + 2, 0, none⟩)) ∧ h'' = upd g7 (n' + 2) ⟨(motT p w i).cells, 38, 0, true⟩ ∧ n'' = n' + 3) ?_ ?_
      · refine Sat.sq ?_
        refine Sat.reg (by kernel_rfl) ?_
        by_cases hr : 0 < 1000 * max 0 w.d
        · have er : rateT w.d = max 20000 (1000 * max 0 w.d) := by unfold rateT; rw [if_pos hr]
          simp -dsimp [y0, hr]
          refine Sat.cond (t := true) (by rfl) ?_
          refine Sat.reg (by kernel_rfl) ?_
          simp -dsimp [y0]
          simp only [motT, er, Mot.cells]
          exact ⟨by simp [t3, find], by simp [t5, find], by simp [t6, find], by simp [t62, find], by simp [t63, find], by simp [t64, find], by simp [t7, find], trivial⟩
        · have er : rateT w.d = 1000 * max 0 w.d := by unfold rateT; rw [if_neg hr]
          simp -dsimp [y0, hr]
          refine Sat.cond (t := false) (by rfl) ?_
          refine Sat.skip ?_
          simp -dsimp
          simp only [motT, er, Mot.cells]
          exact ⟨by simp [t3, find], by simp [t5, find], by simp [t6, find], by simp [t62, find], by simp [t63, find], by simp [t64, find], by simp [t7, find], trivial⟩
      clear t3 t5 t6 t62 t63 t64 t7
      rintro T' h8 n8 ⟨t3, t5, t6, t62, t63, t64, t7, t11, hh8, rfl⟩
      have hmc : h8 (n' + 2) = some ⟨(motT p w i).cells, 38, 0, true⟩ := by rw [hh8, upd_at, if_pos rfl]
      have h8s : ∀ L, L < n' + 2 → h8 L = g7 L := fun L hL => by rw [hh8, upd_at, if_neg (by omega)]
      clear hh8 y0
      have d1 := (h8s (n + 1) (by omega)).trans c1
      have d2 := (h8s (n + 2) (by omega)).trans c2
      have d3 := (h8s (n + 3) (by omega)).trans c3
      have hg8 : GS (upd h8 (n' + 3) ⟨(motT p w i).cells, 38, 0, true⟩) 38 9 s (motCells dn) dn.length (n + 4) n' := hg7.frame (fun L h1 h3 => by rw [upd_at, if_neg (by omega)]; exact h8s L (by omega)) (Nat.le_refl _)
      obtain ⟨s2, E, ha, hfr, hal, hal2, hg9⟩ := hg8.append (P := Try.prog) (t := 22) (L := n' + 4) (B := n' + 3) (xs := (motT p w i).cells) (bo := true) (by' := 72) Try.underlying22 c38 b38 z38 rfl (by omega) (by omega) (by rw [upd_at, if_pos rfl]) rfl (by omega) (by omega) (by omega)
      have e9 : motCells (dn ++ [motT p w i]) = motCells dn ++ (motT p w i).cells := by simp [motCells]
      have el : (dn ++ [motT p w i]).length = dn.length + 1 := by simp
      rw [← e9, ← el] at hg9
      have f0 : ∀ L, L < n + 4 → eff (upd h8 (n' + 3) ⟨(motT p w i).cells, 38, 0, true⟩) E L = h8 L := fun L hL => by rw [hfr _ (by omega), upd_at, if_neg (by omega)]
      have fm : eff (upd h8 (n' + 3) ⟨(motT p w i).cells, 38, 0, true⟩) E (n' + 2) = some ⟨(motT p w i).cells, 38, 0, true⟩ := by rw [hfr _ (by omega), upd_at, if_neg (by omega)]; exact hmc
      have nnE := ne2 (show n + 2 < allocs (n' + 4) E by omega)
      have hto : (motT p w i).to = ⟨p.x + w.a.tmod 600, p.y + w.b.tmod 600, p.z + w.c.tmod 600⟩ := rfl
      have hcat : (dn ++ [motT p w i]) ++ motsT (ws.drop (i + 1)) (motT p w i).to (i + 1) = motsT ws ⟨x, y, z⟩ 0 := by
        rw [List.append_assoc, ← hdn, hdrop]; rfl
      have hle : (dn ++ [motT p w i]).length = i + 1 := by rw [el, hdl]
      generalize hmm : motT p w i = m at *
      dsimp only [Mot.cells] at hmc ha hg9 f0 fm
      refine Sat.sq ?_
      refine Sat.reg (by kernel_rfl) ?_
      simp -dsimp [t7, t11, hmc, ha, -eff, -allocs]
      clear hfr hg8 e9 el
      generalize eff (upd h8 (n' + 3) _) E = g9 at *
      generalize allocs (n' + 4) E = q at *
      refine Sat.reg (by kernel_rfl) ?_
      simp -dsimp [t5, t11, fm, (f0 (n + 2) (by omega)).trans d2, nnE]
      refine ⟨by simp [t3, find], by simp [t5, find], by simp [t6, find], by simp [t62, find], by simp [t63, find], by simp [t64, find], by omega, fun L hL => ?_, ?_, ?_, m.to, _, s2, ?_, by simp [find], hg9.frame (fun L h1 h3 => by rw [upd_at, if_neg (by omega)]) (Nat.le_refl _), hle, hcat, hnext⟩
      · rw [upd_at, if_neg (by omega), f0 L (by omega), h8s L (by omega)]; exact hk7 L hL
      · rw [upd_at, if_neg (by omega), f0 _ (by omega)]; exact d1
      · rw [upd_at, if_neg (by omega), f0 _ (by omega)]; exact d3
      · rw [upd_at, if_pos rfl]; rfl
    rintro T h2 n2 ⟨t3, t5, t6, t62, t63, t64, hn, hk, b1, b3, p, dn, s, b2, t7, hg, hdl, hdn, hin⟩
    rw [List.drop_length, show motsT [] p ws.length = [] from rfl, List.append_nil] at hdn
    subst hdn
    obtain ⟨As, cs, rfl⟩ := hg.val
    generalize hgl : (motsT ws ⟨x, y, z⟩ 0).length = k at *
    refine Sat.sq ?_
    refine Sat.drw u34_16 mixed (by kernel_rfl) (by kernel_rfl) (by kernel_rfl) (by kernel_rfl) ?_
    have nn1 := ne2 (show n + 1 < n2 by omega)
    simp -dsimp [t3, t6, t7, b1, b3, nn1]
    refine Sat.ret ?_
    try simp -dsimp only [thenH_ret, blockA_ret, thenA_ret]
    refine RetQ.ret (r := .tuple #[.slice As k cs, limV S A J, .bool true]) (by simp -dsimp [t3]) ⟨by omega, fun L hL => ?_, .inr ⟨hok, _, rfl, ?_⟩⟩
    · rw [upd_at, if_neg (by omega)]; exact hk L hL
    · rw [hgl]; exact (hg.frame (fun L h1 h3 => by rw [upd_at, if_neg (by omega)]) (Nat.le_refl _)).lo (by omega)
  refine Sat.sq ?_
  refine Sat.reg (by kernel_rfl) ?_
  by_cases h6 : ws.length ≤ 6
  rotate_left
  · have h6' : (6 : Int) < ws.length := by omega
    simp -dsimp [b0, b3, h6']
    refine Sat.cond (t := true) (by rfl) ?_
    refine Sat.sq ?_
    refine Sat.drw u34_4 mixed (by kernel_rfl) (by kernel_rfl) (by kernel_rfl) (by kernel_rfl) ?_
    simp -dsimp [b1, b3]
    refine Sat.ret ?_
    try simp -dsimp only [thenH_ret, blockA_ret, thenA_ret]
    exact RetQ.ret (r := .tuple #[.slice none 0 0, limV S A J, .bool false]) (by simp -dsimp) (bad (by simp [okT, h6]) _ _ (by omega) hk4')
  have h6' : ¬ (6 : Int) < ws.length := by omega
  cases hv : validM S A J
  · simp -dsimp [b0, b3, h6']
    refine (w72 S A J).useH ?_
    rw [hv]
    simp -dsimp [b3]
    refine Sat.cond (t := true) (by rfl) ?_
    refine Sat.sq ?_
    refine Sat.drw u34_4 mixed (by kernel_rfl) (by kernel_rfl) (by kernel_rfl) (by kernel_rfl) ?_
    simp -dsimp [b1, b3]
    refine Sat.ret ?_
    try simp -dsimp only [thenH_ret, blockA_ret, thenA_ret]
    exact RetQ.ret (r := .tuple #[.slice none 0 0, limV S A J, .bool false]) (by simp -dsimp) (bad (by simp [okT, hv]) _ _ (by omega) hk4')
  by_cases hS : S < 20
  · simp -dsimp [b0, b3, h6']
    refine (w72 S A J).useH ?_
    rw [hv]
    simp -dsimp [b3, hS]
    refine Sat.cond (t := true) (by rfl) ?_
    refine Sat.sq ?_
    refine Sat.drw u34_4 mixed (by kernel_rfl) (by kernel_rfl) (by kernel_rfl) (by kernel_rfl) ?_
    simp -dsimp [b1, b3]
    refine Sat.ret ?_
    try simp -dsimp only [thenH_ret, blockA_ret, thenA_ret]
    exact RetQ.ret (r := .tuple #[.slice none 0 0, limV S A J, .bool false]) (by simp -dsimp) (bad (by simp [okT]; omega) _ _ (by omega) hk4')
  by_cases hA : A < 20
  · simp -dsimp [b0, b3, h6']
    refine (w72 S A J).useH ?_
    rw [hv]
    simp -dsimp [b3, hS, hA]
    refine Sat.cond (t := true) (by rfl) ?_
    refine Sat.sq ?_
    refine Sat.drw u34_4 mixed (by kernel_rfl) (by kernel_rfl) (by kernel_rfl) (by kernel_rfl) ?_
    simp -dsimp [b1, b3]
    refine Sat.ret ?_
    try simp -dsimp only [thenH_ret, blockA_ret, thenA_ret]
    exact RetQ.ret (r := .tuple #[.slice none 0 0, limV S A J, .bool false]) (by simp -dsimp) (bad (by simp [okT]; omega) _ _ (by omega) hk4')
  by_cases hJ : J < 40
  · simp -dsimp [b0, b3, h6']
    refine (w72 S A J).useH ?_
    rw [hv]
    simp -dsimp [b3, hS, hA, hJ]
    refine Sat.cond (t := true) (by rfl) ?_
    refine Sat.sq ?_
    refine Sat.drw u34_4 mixed (by kernel_rfl) (by kernel_rfl) (by kernel_rfl) (by kernel_rfl) ?_
    simp -dsimp [b1, b3]
    refine Sat.ret ?_
    try simp -dsimp only [thenH_ret, blockA_ret, thenA_ret]
    exact RetQ.ret (r := .tuple #[.slice none 0 0, limV S A J, .bool false]) (by simp -dsimp) (bad (by simp [okT]; omega) _ _ (by omega) hk4')
  simp -dsimp [b0, b3, h6']
  refine (w72 S A J).useH ?_
  rw [hv]
  simp -dsimp [b3, hS, hA, hJ]
  refine Sat.cond (t := false) (by rfl) ?_
  refine Sat.skip ?_
  simp -dsimp
  exact ⟨rfl, rfl, rfl, rfl, rfl, rfl, by simp [okT, h6, hv]; omega⟩
def tripPostR (p : P3) (ws : List Way) (S A J : Int) (h : Heap) (n : Nat) (r : Value) (h' : Heap) (n' : Nat) : Prop :=
  n ≤ n' ∧ (∀ L, L < n → h' L = h L) ∧ ((okT S A J ws = false ∧ r = .tuple #[.slice none 0 0, limV S A J, .bool false]) ∨ (okT S A J ws = true ∧ ∃ lv, r = .tuple #[lv, limV S A J, .bool true] ∧ RO h' 9 lv (motCells (motsT ws p 0)) (motsT ws p 0).length))
theorem w34 {h : Heap} {x y z S A J : Int} {wv : Value} {ws : List Way} (hx : i16 x ∧ i16 y ∧ i16 z) (hw : RO h 4 wv (wayCells ws) ws.length) (hf : ∀ w ∈ ws, w.Fit) (few : ws.length ≤ 9223372036854775807) (n : Nat) :
    Dm.Spec Try.prog 34 [tripV x y z wv S A J] h n (tripPostR ⟨x, y, z⟩ ws S A J h n) := by
  refine Spec.after (w34raw hx hw hf few n) fun r h' n' ⟨h1, h2, h3⟩ => ?_
  rcases h3 with h3 | ⟨h3, lv, h4, h5⟩
  · exact .inl ⟨h1, h2, .inl h3⟩
  · rcases GS.toRO h5 with h5 | ⟨L, b, h6, h7, h8, h9⟩
    · exact .inl ⟨h1, h2, .inr ⟨h3, lv, h4, h5⟩⟩
    · exact .inr ⟨L, b, h6, h1, fun L' hL => by rw [upd_at, if_neg (by omega)]; exact h2 L' hL, .inr ⟨h3, lv, h4, h9⟩⟩

end Go.Proofs.Ytoinimkmoojcoaa
/- Trips: their motions are accepted, and what leads back to them takes few ticks. -/
set_option linter.unusedSimpArgs false
set_option linter.unusedVariables false
namespace Go.Proofs.Ytoinimkmoojcoaa
open Go Go.Dm
theorem steps_len {S A J m : Int} (h : (stepsM S A J m).2 = 0) : ((stepsM S A J m).1.length : Int) ≤ (m + simpleM S A J - 1) / simpleM S A J := by
  have hs := steps_sum h
  have hv := hs.1
  have hu := simple_pos2 hv
  have ht : (ticksM S A J m).2 = 0 := by
    unfold stepsM at h
    simp only at h
    split at h
    · rename_i h1; exact absurd h h1
    · rename_i h1; simpa using h1
  obtain ⟨_, m0, _, h1⟩ := ticks_ok ht
  have h2 : 0 ≤ (m + simpleM S A J - 1) / simpleM S A J := Int.ediv_nonneg (by omega) (by omega)
  have h3 : m ≤ ((m + simpleM S A J - 1) / simpleM S A J).toNat * simpleM S A J := by
    rw [Int.toNat_of_nonneg h2]
    have := Int.emod_add_mul_ediv (m + simpleM S A J - 1) (simpleM S A J)
    have h4 := Int.emod_lt_of_pos (m + simpleM S A J - 1) hu
    rw [Int.mul_comm] at this
    omega
  unfold stepsM
  simp only [ht, h1]
  split
  · simp; omega
  · split
    · simp; omega
    · split
      · rename_i l hl
        unfold fastM at hl
        split at hl
        · cases hl
        · cases hf : fastL S A J ((m + simpleM S A J - 1) / simpleM S A J).toNat 0 0 m with
          | none => rw [hf] at hl; cases hl
          | some l' =>
            rw [hf] at hl
            simp only [Option.bind_some] at hl
            split at hl
            · injection hl with hl; subst hl
              have := (fastL_sum _ _ _ _ _ m0 hf).2.2
              simp only
              generalize (m + simpleM S A J - 1) / simpleM S A J = q at *
              omega
            · cases hl
      · have := (fbL_sum hu _ m m0 h3).2.2
        show ((fbL (simpleM S A J) ((m + simpleM S A J - 1) / simpleM S A J).toNat m).length : Int) ≤ _
        omega
theorem ceil_le {m u v : Int} (hm : 0 ≤ m) (hv : 0 < v) (h : v ≤ u) : (m + u - 1) / u ≤ (m + v - 1) / v := by
  have h1 : m ≤ ((m + v - 1) / v) * v := by
    have := Int.emod_add_mul_ediv (m + v - 1) v
    have h4 := Int.emod_lt_of_pos (m + v - 1) hv
    rw [Int.mul_comm] at this
    omega
  have h0 : 0 ≤ (m + v - 1) / v := Int.ediv_nonneg (by omega) (by omega)
  have h2 : ((m + v - 1) / v) * v ≤ ((m + v - 1) / v) * u := Int.mul_le_mul_of_nonneg_left h h0
  have h3 : (m + u - 1) / u < (m + v - 1) / v + 1 := by
    rw [Int.ediv_lt_iff_lt_mul (by omega)]
    rw [Int.add_mul, Int.one_mul]
    omega
  omega
theorem steps_ok_u {S A J m : Int} (hv : validM S A J = true) (hu20 : 20 ≤ simpleM S A J) (h0 : 0 ≤ m) (h1 : m ≤ 1000000) : (stepsM S A J m).2 = 0 := by
  have hu := simple_pos2 hv
  have ht : ticksM S A J m = ((m + simpleM S A J - 1) / simpleM S A J, 0) := by
    unfold ticksM
    rw [if_neg (by rw [hv]; simp; omega), if_neg (by omega)]
  unfold stepsM
  simp only [ht]
  have hle : ¬ 100000 < (m + simpleM S A J - 1) / simpleM S A J := by
    have := ceil_le (u := simpleM S A J) (v := 20) h0 (by omega) hu20
    omega
  rw [if_neg (by simp), if_neg hle]
  split <;> rfl
def aB (x : Int) : Int := if x < 0 then -x else x
theorem len_le {m : Mot} (h : m.near) : m.len ≤ aB (m.tx - m.fx) + aB (m.ty - m.fy) + aB (m.tz - m.fz) := by
  have hs := Mot.sum_in h
  have h2 := (lenS_spec (s := m.sum) (by omega))
  have sqa : ∀ x : Int, aB x * aB x = x * x := fun x => by
    unfold aB; split
    · rw [Int.neg_mul_neg]
    · rfl
  have na : ∀ x : Int, 0 ≤ aB x := fun x => by unfold aB; split <;> omega
  have h3 : m.sum ≤ (aB (m.tx - m.fx) + aB (m.ty - m.fy) + aB (m.tz - m.fz)) * (aB (m.tx - m.fx) + aB (m.ty - m.fy) + aB (m.tz - m.fz)) := by
    unfold Mot.sum
    rw [← sqa (m.tx - m.fx), ← sqa (m.ty - m.fy), ← sqa (m.tz - m.fz)]
    have p := na (m.tx - m.fx); have q := na (m.ty - m.fy); have r := na (m.tz - m.fz)
    generalize aB (m.tx - m.fx) = a at *
    generalize aB (m.ty - m.fy) = b at *
    generalize aB (m.tz - m.fz) = c at *
    have e1 := Int.mul_nonneg p q
    have e2 := Int.mul_nonneg p r
    have e3 := Int.mul_nonneg q r
    have e : (a + b + c) * (a + b + c) = a * a + b * b + c * c + 2 * (a * b) + 2 * (a * c) + 2 * (b * c) := by
      simp only [Int.add_mul, Int.mul_add, Int.mul_comm b a, Int.mul_comm c a, Int.mul_comm c b]; omega
    omega
  have p := na (m.tx - m.fx); have q := na (m.ty - m.fy); have r := na (m.tz - m.fz)
  unfold Mot.len
  rcases h2.2.2.2 with h | h
  · omega
  · generalize hk : aB (m.tx - m.fx) + aB (m.ty - m.fy) + aB (m.tz - m.fz) = k at *
    rcases Int.lt_or_le k (lenS m.sum) with hc | hc
    · have := Int.mul_le_mul (show k ≤ lenS m.sum - 1 by omega) (show k ≤ lenS m.sum - 1 by omega) (by omega) (by omega)
      omega
    · exact hc
/-- Limits that lead to few ticks. -/
structure Quick (S A J : Int) : Prop where
  valid : validM S A J = true
  s : 20 ≤ S
  a : 20 ≤ A
  j : 40 ≤ J
theorem Quick.cost {S A J : Int} (h : Quick S A J) {m : Mot} (hn : m.near) (hr : m.rate = 0 ∨ 20000 ≤ m.rate) (hl : m.len ≤ 1000000) :
    (stepsM (limM m.rate S) A J m.len).2 = 0 ∧ (cost S A J m : Int) ≤ (m.len + 19) / 20 := by
  have h0 := (Mot.len_in hn).1
  have hS := h.s; have hA := h.a; have hJ := h.j
  have hlim : 20 ≤ limM m.rate S := by
    unfold limM
    split
    · omega
    · exact hS
  have hu : 20 ≤ simpleM (limM m.rate S) A J := by unfold simpleM; omega
  have hs : (stepsM (limM m.rate S) A J m.len).2 = 0 := steps_ok_u (lim_valid h.valid) hu h0 hl
  refine ⟨hs, ?_⟩
  have h1 := steps_len hs
  have := ceil_le (u := simpleM (limM m.rate S) A J) (v := 20) h0 (by omega) hu
  unfold Go.Proofs.Ytoinimkmoojcoaa.cost
  omega
end Go.Proofs.Ytoinimkmoojcoaa
/- Trips: their motions are accepted; motions in a row. -/
set_option linter.unusedSimpArgs false
set_option linter.unusedVariables false
namespace Go.Proofs.Ytoinimkmoojcoaa
open Go Go.Dm
theorem anyFrom_none {p : Int → Bool} : ∀ (k : Nat) (i : Int), (∀ j, i ≤ j → j < i + k → p j = false) → anyFrom p k i = false
  | 0, _, _ => rfl
  | k + 1, i, h => by
    simp only [anyFrom, Bool.or_eq_false_iff]
    exact ⟨h i (by omega) (by omega), anyFrom_none k (i + 1) fun j a b => h j (by omega) (by omega)⟩
/-- Motions in a row, from a place on. -/
def Linked : P3 → List Mot → Prop
  | _, [] => True
  | p, m :: r => m.fr = p ∧ Linked m.to r
theorem Linked.conn : ∀ {ms : List Mot} {p : P3}, Linked p ms → Conn ms
  | [], _, _ => fun i hi => by simp at hi
  | [m], _, _ => fun i hi => by simp at hi
  | m :: k :: r, p, h => fun i hi => by
    cases i with
    | zero => exact h.2.1.symm
    | succ i =>
      have := Linked.conn h.2 i (by simpa using hi)
      simpa using this
theorem Linked.first {ms : List Mot} {p : P3} (h : Linked p ms) (h0 : 0 < ms.length) : (ms[0]!).fr = p := by
  cases ms with
  | nil => simp at h0
  | cons m r => exact h.1
theorem Linked.append : ∀ {a b : List Mot} {p : P3}, Linked p a → Linked (endM p a) b → Linked p (a ++ b)
  | [], b, p, _, h => by simpa [endM] using h
  | m :: r, b, p, h, h2 => by
    refine ⟨h.1, Linked.append h.2 ?_⟩
    have : endM p (m :: r) = endM m.to r := by
      unfold endM
      cases r with
      | nil => rfl
      | cons k r => simp
    rw [← this]; exact h2
theorem endM_take {p : P3} {m : Mot} {r : List Mot} (i : Nat) (hi : i ≤ r.length) : endM p ((m :: r).take (i + 1)) = endM m.to (r.take i) := by
  rw [List.take_succ_cons]
  generalize r.take i = t
  unfold endM
  cases t with
  | nil => rfl
  | cons k t => simp
theorem Linked.linkM : ∀ {ms : List Mot} {p : P3}, Linked p ms → linkM p ms = true := by
  intro ms p h
  unfold Go.Proofs.Ytoinimkmoojcoaa.linkM
  rw [decide_eq_true_eq]
  intro i hi
  induction ms generalizing p i with
  | nil => simp at hi
  | cons m r ih =>
    cases i with
    | zero => simpa [endM] using h.1
    | succ i =>
      have h1 := ih h.2 i (by simpa using hi)
      rw [endM_take i (by simp at hi; omega), ← h1]
      simp
theorem Linked.end_ {p : P3} : ∀ {ms : List Mot}, True := trivial
theorem Linked.drop : ∀ {ms : List Mot} {p : P3} (i : Nat), Linked p ms → i < ms.length → Linked (ms[i]!).fr (ms.drop i)
  | m :: r, p, 0, h, _ => ⟨rfl, h.2⟩
  | m :: r, p, i + 1, h, hi => by
    have := Linked.drop i h.2 (by simpa using hi)
    simpa using this
theorem checkM_of {S A J : Int} {ms : List Mot} (hv : validM S A J = true) (hr : ∀ m ∈ ms, 0 ≤ m.rate) (hc : Conn ms) (hn : ∀ m ∈ ms, m.near) (hl : ms.length ≤ 20000) (hs : ∀ m ∈ ms, (stepsM (limM m.rate S) A J m.len).2 = 0) : checkM S A J ms = 0 := by
  have mem : ∀ j : Int, 0 ≤ j → j < 0 + (ms.length : Int) → ms[j.toNat]! ∈ ms := fun j h1 h2 => get_mem h1 (by omega)
  have hb : badM ms = false := by
    refine anyFrom_none _ _ fun j h1 h2 => ?_
    simp only [bad1, Bool.or_eq_false_iff, decide_eq_false_iff_not, Bool.and_eq_false_iff]
    refine ⟨by have := hr _ (mem j h1 h2); omega, ?_⟩
    by_cases h0 : 0 < j
    · right
      have := hc (j - 1).toNat (by omega)
      rw [show (j - 1).toNat + 1 = j.toNat by omega] at this
      simpa using this
    · left; simpa using h0
  have hf : farsM ms = false := by
    refine anyFrom_none _ _ fun j h1 h2 => ?_
    have := hn _ (mem j h1 h2)
    unfold Mot.near inR at this
    simp only [far1, farM, Bool.or_eq_false_iff, decide_eq_false_iff_not]
    omega
  have he : errM S A J ms = 0 := firstErr_zero _ _ fun j h1 h2 => hs _ (mem j h1 h2)
  unfold checkM
  simp [hv, hb, hf, he]
  omega
/-- Coordinates in a small box, a rate that leads to few ticks. -/
def box (x : Int) : Prop := -40000 ≤ x ∧ x ≤ 40000
def P3.box (p : P3) : Prop := Go.Proofs.Ytoinimkmoojcoaa.box p.x ∧ Go.Proofs.Ytoinimkmoojcoaa.box p.y ∧ Go.Proofs.Ytoinimkmoojcoaa.box p.z
structure Mot.Small (m : Mot) : Prop where
  fr : m.fr.box
  to : m.to.box
  rate : m.rate = 0 ∨ 20000 ≤ m.rate
  top : m.rate ≤ 40000000
  short : aB (m.tx - m.fx) ≤ 599 ∧ aB (m.ty - m.fy) ≤ 599 ∧ aB (m.tz - m.fz) ≤ 599
theorem Mot.Small.near {m : Mot} (h : m.Small) : m.near := by
  have h1 := h.fr; have h2 := h.to
  unfold P3.box Go.Proofs.Ytoinimkmoojcoaa.box Mot.fr Mot.to at *
  unfold Mot.near inR
  simp only at *
  omega
theorem motT_small {p : P3} {w : Way} {i : Nat} (hp : inP p i) (hi : i < 6) (hw : w.Fit) : (motT p w i).Small := by
  have ta := tm600 w.a; have tb := tm600 w.b; have tc := tm600 w.c
  have hd := hw.2.2.2
  unfold i16 at hd
  unfold inP at hp
  have hi' : (i : Int) < 6 := by omega
  refine ⟨?_, ?_, ?_, ?_, ?_⟩
  · unfold P3.box box; simp only [motT, Mot.fr]; omega
  · unfold P3.box box; simp only [motT, Mot.to]; omega
  · show rateT w.d = 0 ∨ 20000 ≤ rateT w.d; unfold rateT; split <;> omega
  · show rateT w.d ≤ 40000000; unfold rateT; split <;> omega
  · simp only [motT]; unfold aB; refine ⟨?_, ?_, ?_⟩ <;> split <;> omega
theorem motsT_ok : ∀ (ws : List Way) (p : P3) (i : Nat), inP p i → i + ws.length ≤ 6 → (∀ w ∈ ws, w.Fit) → Linked p (motsT ws p i) ∧ (∀ m ∈ motsT ws p i, m.Small) ∧ (motsT ws p i).length = ws.length
  | [], p, i, _, _, _ => ⟨trivial, fun m hm => by simp [motsT] at hm, rfl⟩
  | w :: ws, p, i, hp, hi, hf => by
    obtain ⟨a, b, c⟩ := motsT_ok ws (motT p w i).to (i + 1) (motT_in hp) (by simp at hi; omega) fun x hx => hf x (by simp [hx])
    refine ⟨⟨?_, a⟩, fun m hm => ?_, by simp [motsT, c]⟩
    · simp [motT, Mot.fr]
    · rcases List.mem_cons.1 hm with rfl | hm
      · exact motT_small hp (by simp at hi; omega) (hf w (by simp))
      · exact b m hm
end Go.Proofs.Ytoinimkmoojcoaa
/- The way back to a trip. -/
set_option linter.unusedSimpArgs false
set_option linter.unusedVariables false
set_option maxHeartbeats 2000000
namespace Go.Proofs.Ytoinimkmoojcoaa
open Go Go.Dm
theorem posM_box {x y p l : Int} (hx : box x) (hy : box y) (hl : 1 ≤ l) (h0 : 0 ≤ p) (h1 : p ≤ l) : box (posM x y p l) := by
  have e0 := posM_zero (x := x) (y := y) hl
  have e1 := posM_len (x := x) (y := y) hl
  unfold box at *
  rcases Int.le_total x y with hxy | hxy
  · have m1 : 2 * (y - x) * 0 ≤ 2 * (y - x) * p := Int.mul_le_mul_of_nonneg_left h0 (by omega)
    have m2 : 2 * (y - x) * p ≤ 2 * (y - x) * l := Int.mul_le_mul_of_nonneg_left h1 (by omega)
    have d1 : (2 * (y - x) * 0 + l) / (2 * l) ≤ (2 * (y - x) * p + l) / (2 * l) := Int.ediv_le_ediv (by omega) (by omega)
    have d2 : (2 * (y - x) * p + l) / (2 * l) ≤ (2 * (y - x) * l + l) / (2 * l) := Int.ediv_le_ediv (by omega) (by omega)
    unfold posM at *
    omega
  · have m1 : 2 * (y - x) * p ≤ 2 * (y - x) * 0 := Int.mul_le_mul_of_nonpos_left (by omega) h0
    have m2 : 2 * (y - x) * l ≤ 2 * (y - x) * p := Int.mul_le_mul_of_nonpos_left (by omega) h1
    have d1 : (2 * (y - x) * p + l) / (2 * l) ≤ (2 * (y - x) * 0 + l) / (2 * l) := Int.ediv_le_ediv (by omega) (by omega)
    have d2 : (2 * (y - x) * l + l) / (2 * l) ≤ (2 * (y - x) * p + l) / (2 * l) := Int.ediv_le_ediv (by omega) (by omega)
    unfold posM at *
    omega
theorem pos_box {s : CS} (ho : s.Ok) (hs : ∀ m ∈ s.ms, m.Small) : s.pos.box := by
  unfold CS.pos
  split
  · unfold P3.box box; simp
  · rename_i h0
    split
    · rename_i hi
      have := hs _ (get_mem (l := s.ms) (i := s.index - 1) (by omega) (by omega))
      exact this.to
    · rename_i hi
      have hi : s.index < s.ms.length := by have := ho.idx.2; omega
      have hm := hs _ (cur_mem ho.idx.1 hi)
      have hp := ho.part hi
      have h1 := hm.fr; have h2 := hm.to
      unfold P3.box Mot.fr at h1
      unfold P3.box Mot.to at h2
      unfold P3.box Mot.at'
      exact ⟨posM_box h1.1 h2.1 hp.1 hp.2.1 hp.2.2, posM_box h1.2.1 h2.2.1 hp.1 hp.2.1 hp.2.2, posM_box h1.2.2 h2.2.2 hp.1 hp.2.1 hp.2.2⟩
theorem endM_last (p : P3) (a : List Mot) (m : Mot) : endM p (a ++ [m]) = m.to := by
  unfold endM
  rw [if_neg (by simp)]
  simp
theorem legs_linked (a b : P3) (safe rate tool block : Int) : ∀ j, Linked a (legsTo a b safe rate tool block j) ∧ endM a (legsTo a b safe rate tool block j) = ptR a b safe j
  | 0 => ⟨trivial, rfl⟩
  | j + 1 => by
    obtain ⟨h1, h2⟩ := legs_linked a b safe rate tool block j
    unfold legsTo
    by_cases e : ptR a b safe j = ptR a b safe (j + 1)
    · rw [if_pos e, List.append_nil, ← e]; exact ⟨h1, h2⟩
    · rw [if_neg e]
      refine ⟨h1.append ⟨?_, trivial⟩, ?_⟩
      · rw [h2]; rfl
      · rw [endM_last]; rfl
theorem legs_mem {a b : P3} {safe rate tool block : Int} : ∀ {j : Nat} {m : Mot}, m ∈ legsTo a b safe rate tool block j → ∃ k, k < j ∧ m = legMot a b safe rate tool block k
  | 0, m, h => by simp [legsTo] at h
  | j + 1, m, h => by
    unfold legsTo at h
    rcases List.mem_append.1 h with h | h
    · obtain ⟨k, h1, h2⟩ := legs_mem h
      exact ⟨k, by omega, h2⟩
    · split at h
      · cases h
      · exact ⟨j, by omega, by simpa using h⟩
theorem legs_cost {S A J : Int} {a b : P3} {safe rate tool block : Int} (f : Nat → Nat) (hf : ∀ k, cost S A J (legMot a b safe rate tool block k) ≤ f k) : ∀ j, ((legsTo a b safe rate tool block j).map (cost S A J)).sum ≤ ((List.range j).map f).sum
  | 0 => by simp [legsTo]
  | j + 1 => by
    have h := legs_cost f hf j
    unfold legsTo
    rw [List.map_append, List.sum_append, List.range_succ, List.map_append, List.sum_append]
    split
    · simp; omega
    · have := hf j
      simp; omega
theorem small_costs {S A J : Int} (hq : Quick S A J) : ∀ (ms : List Mot), (∀ m ∈ ms, m.Small) → (ms.map (cost S A J)).sum ≤ 91 * ms.length
  | [], _ => by simp
  | m :: r, h => by
    have h1 := small_costs hq r fun x hx => h x (by simp [hx])
    have hm := h m (by simp)
    have hl := len_le hm.near
    have hs := hm.short
    have := (hq.cost hm.near hm.rate (by omega)).2
    simp only [List.map_cons, List.sum_cons, List.length_cons]
    omega
def fB : Nat → Nat
  | 0 => 5278
  | 1 => 8001
  | 2 => 3278
  | 3 => 2051
  | _ => 0
theorem aB_le {x k : Int} (h1 : -k ≤ x) (h2 : x ≤ k) : aB x ≤ k := by unfold aB; split <;> omega
theorem leg_fit {a b : P3} {safe rate tool block : Int} (ha : a.box) (hb : b.box) (hs : 1000 ≤ safe ∧ safe ≤ 65535) (hr : rate = 0 ∨ 20000 ≤ rate) (k : Nat) :
    (legMot a b safe rate tool block k).near ∧ ((legMot a b safe rate tool block k).rate = 0 ∨ 20000 ≤ (legMot a b safe rate tool block k).rate) ∧ (legMot a b safe rate tool block k).len ≤ 20 * (fB k : Int) ∧ ((legMot a b safe rate tool block k).len + 19) / 20 ≤ fB k := by
  unfold P3.box box at ha hb
  have hn : (legMot a b safe rate tool block k).near := by
    unfold Mot.near inR legMot
    match k with
    | 0 => simp only [ptR]; omega
    | 1 => simp only [ptR]; omega
    | 2 => simp only [ptR]; omega
    | 3 => simp only [ptR]; omega
    | k + 4 => simp only [ptR]; omega
  have hl := len_le hn
  refine ⟨hn, ?_, ?_⟩
  · show (if k = 3 then rate else 0) = 0 ∨ 20000 ≤ (if k = 3 then rate else 0)
    split
    · exact hr
    · left; rfl
  · generalize (legMot a b safe rate tool block k).len = l at *
    match k with
    | 0 =>
      simp only [legMot, ptR] at hl
      have h1 := aB_le (x := a.x - a.x) (k := 0) (by omega) (by omega)
      have h2 := aB_le (x := a.y - a.y) (k := 0) (by omega) (by omega)
      have h3 := aB_le (x := safe - a.z) (k := 105535) (by omega) (by omega)
      simp only [fB]; omega
    | 1 =>
      simp only [legMot, ptR] at hl
      have h1 := aB_le (x := b.x - a.x) (k := 80000) (by omega) (by omega)
      have h2 := aB_le (x := b.y - a.y) (k := 80000) (by omega) (by omega)
      have h3 := aB_le (x := safe - safe) (k := 0) (by omega) (by omega)
      simp only [fB]; omega
    | 2 =>
      simp only [legMot, ptR] at hl
      have h1 := aB_le (x := b.x - b.x) (k := 0) (by omega) (by omega)
      have h2 := aB_le (x := b.y - b.y) (k := 0) (by omega) (by omega)
      have h3 := aB_le (x := max b.z 1000 - safe) (k := 65535) (by omega) (by omega)
      simp only [fB]; omega
    | 3 =>
      simp only [legMot, ptR] at hl
      have h1 := aB_le (x := b.x - b.x) (k := 0) (by omega) (by omega)
      have h2 := aB_le (x := b.y - b.y) (k := 0) (by omega) (by omega)
      have h3 := aB_le (x := b.z - max b.z 1000) (k := 41000) (by omega) (by omega)
      simp only [fB]; omega
    | k + 4 =>
      simp only [legMot, ptR] at hl
      have h1 := aB_le (x := b.x - b.x) (k := 0) (by omega) (by omega)
      have h2 := aB_le (x := b.y - b.y) (k := 0) (by omega) (by omega)
      have h3 := aB_le (x := b.z - b.z) (k := 0) (by omega) (by omega)
      simp only [fB]; omega
theorem rateL_mem (l : List Mot) (h : ∀ m ∈ l, m.Small) : ∀ (k : Nat) (i : Int), i < l.length → rateL l k i = 0 ∨ 20000 ≤ rateL l k i
  | 0, _, _ => .inl rfl
  | k + 1, i, hi => by
    unfold rateL
    split
    · split
      · exact rateL_mem l h k (i - 1) (by omega)
      · rename_i h0 h1
        rcases (h _ (get_mem h0 hi)).rate with e | e
        · exact absurd e h1
        · exact .inr e
    · exact .inl rfl
theorem rateM_mem (l : List Mot) (h : ∀ m ∈ l, m.Small) (i : Int) : rateM l i = 0 ∨ 20000 ≤ rateM l i := rateL_mem l h _ _ (by omega)
/-- What the statement asks of the motions in front. -/
def FrontOk (safe : Int) (m : Mot) : Prop := (m.fx = m.tx ∧ m.fy = m.ty ∨ m.fz = safe ∧ m.tz = safe) ∧ (m.rate = 0 → 1000 ≤ m.tz)
theorem begM_box {l : List Mot} (h : ∀ m ∈ l, m.Small) {i : Int} (h0 : 0 ≤ i) {a : P3} (ha : a.box) : (begM l i a).box := by
  unfold begM
  split
  · rename_i hi; exact (h _ (get_mem h0 hi)).fr
  · split
    · rename_i hl; exact (h _ (by rw [getElem!_pos l (l.length - 1) (by omega)]; exact List.getElem_mem _ : l[l.length - 1]! ∈ l)).to
    · exact ha
theorem rest_ok {S A J : Int} (hq : Quick S A J) {l : List Mot} {i : Int} {a p0 : P3} {safe : Int} (hl : ∀ m ∈ l, m.Small) (hlen : l.length ≤ 6) (hlk : Linked p0 l) (i0 : 0 ≤ i) (i1 : i ≤ l.length) (ha : a.box) (hs : 1000 ≤ safe ∧ safe ≤ 65535) :
    ((restM l i a safe).2 ≠ 0 ∧ (restM l i a safe).1 = []) ∨ ((restM l i a safe).2 = 0 ∧ ∃ front, (restM l i a safe).1 = front ++ l.drop i.toNat ∧ front.length ≤ 4 ∧ (∀ m ∈ front, FrontOk safe m) ∧ Linked a (front ++ l.drop i.toNat) ∧
      checkM S A J (front ++ l.drop i.toNat) = 0 ∧ (∀ m ∈ front ++ l.drop i.toNat, 0 ≤ m.rate ∧ m.rate ≤ 9223372036854775807) ∧ costs S A J (front ++ l.drop i.toNat) 0 ≤ 20001) := by
  have hb := begM_box hl i0 ha
  have hdl : ∀ m ∈ l.drop i.toNat, m.Small := fun m hm => hl m (List.mem_of_mem_drop hm)
  have hdlen : (l.drop i.toNat).length ≤ 6 := by simp; omega
  have hdlk : Linked (begM l i a) (l.drop i.toNat) := by
    by_cases hi : i < l.length
    · unfold begM
      rw [if_pos hi]
      exact hlk.drop i.toNat (by omega)
    · rw [List.drop_eq_nil_of_le (by omega)]; trivial
  have hdc := small_costs hq _ hdl
  have hrate := rateM_mem l hl i
  have htop : rateM l i ≤ 40000000 := by
    have key : ∀ (k : Nat) (j : Int), j < l.length → rateL l k j ≤ 40000000 := by
      intro k
      induction k with
      | zero => intro j _; simp [rateL]
      | succ k ih =>
        intro j hj
        unfold rateL
        split
        · split
          · exact ih (j - 1) (by omega)
          · rename_i h0 _; exact (hl _ (get_mem h0 hj)).top
        · omega
    exact key _ _ (by omega)
  -- motions in front, and those of the trip
  have fin : ∀ front : List Mot, front.length ≤ 4 → Linked a (front ++ l.drop i.toNat) → (∀ m ∈ front, m.near ∧ (m.rate = 0 ∨ 20000 ≤ m.rate) ∧ m.rate ≤ 40000000 ∧ m.len ≤ 100000000 / 1000 + 65535) → (∀ m ∈ front, (stepsM (limM m.rate S) A J m.len).2 = 0) → (front.map (cost S A J)).sum ≤ 19000 →
      checkM S A J (front ++ l.drop i.toNat) = 0 ∧ (∀ m ∈ front ++ l.drop i.toNat, 0 ≤ m.rate ∧ m.rate ≤ 9223372036854775807) ∧ costs S A J (front ++ l.drop i.toNat) 0 ≤ 20001 := by
    intro front f1 f2 f3 f4 f5
    have hr : ∀ m ∈ front ++ l.drop i.toNat, 0 ≤ m.rate ∧ m.rate ≤ 9223372036854775807 := by
      intro m hm
      rcases List.mem_append.1 hm with h | h
      · have := f3 m h; omega
      · have h1 := (hdl m h).rate; have h2 := (hdl m h).top; omega
    refine ⟨checkM_of hq.valid (fun m hm => (hr m hm).1) f2.conn ?_ ?_ ?_, hr, ?_⟩
    · intro m hm
      rcases List.mem_append.1 hm with h | h
      · exact (f3 m h).1
      · exact (hdl m h).near
    · rw [List.length_append]; omega
    · intro m hm
      rcases List.mem_append.1 hm with h | h
      · exact f4 m h
      · have hm := hdl m h
        have hlm := len_le hm.near
        have hsm := hm.short
        exact (hq.cost hm.near hm.rate (by omega)).1
    · unfold costs
      rw [List.drop_zero, List.map_append, List.sum_append]; omega
  unfold restM
  rw [if_neg (by omega)]
  simp only
  by_cases c1 : safe < a.z ∨ safe < (begM l i a).z ∨ safe < 1000
  · rw [if_pos c1]; exact .inl ⟨by simp, rfl⟩
  rw [if_neg c1]
  by_cases c2 : a = begM l i a
  · rw [if_pos c2]
    refine .inr ⟨rfl, [], by simp, by simp, (fun m hm => by cases hm), ?_, ?_⟩
    · rw [List.nil_append]; rw [← c2] at hdlk; exact hdlk
    · exact fin [] (by simp) (by rw [List.nil_append]; rw [← c2] at hdlk; exact hdlk) (fun m hm => by cases hm) (fun m hm => by cases hm) (by simp)
  rw [if_neg c2]
  by_cases c3 : (begM l i a).z < 1000 ∧ rateM l i = 0
  · rw [if_pos c3]; exact .inl ⟨by simp, rfl⟩
  rw [if_neg c3]
  generalize begM l i a = b at *
  generalize rateM l i = rate at *
  generalize (likeM l i).tool = tool
  generalize (likeM l i).block = block
  have hleg := fun k => leg_fit (tool := tool) (block := block) ha hb hs hrate k
  obtain ⟨k1, k2⟩ := legs_linked a b safe rate tool block 4
  have hk3 : Linked a (legsTo a b safe rate tool block 4 ++ l.drop i.toNat) := k1.append (by rw [k2]; exact hdlk)
  have hfl : ∀ k, k < 4 → fB k ≤ 8001 := fun k hk => by
    match k, hk with
    | 0, _ => simp [fB]
    | 1, _ => simp [fB]
    | 2, _ => simp [fB]
    | 3, _ => simp [fB]
  have hst : ∀ k, (stepsM (limM (legMot a b safe rate tool block k).rate S) A J (legMot a b safe rate tool block k).len).2 = 0 ∧ cost S A J (legMot a b safe rate tool block k) ≤ fB k := fun k => by
    obtain ⟨q1, q2, q3, q4⟩ := hleg k
    have hk : fB k ≤ 8001 := by
      match k with
      | 0 => simp [fB]
      | 1 => simp [fB]
      | 2 => simp [fB]
      | 3 => simp [fB]
      | k + 4 => simp [fB]
    obtain ⟨r1, r2⟩ := hq.cost q1 q2 (by omega)
    exact ⟨r1, by omega⟩
  refine .inr ⟨rfl, _, rfl, legsTo_len _ _ _ _ _ _ 4, ?_, hk3, ?_⟩
  · intro m hm
    obtain ⟨k, hk, rfl⟩ := legs_mem hm
    unfold FrontOk legMot
    match k, hk with
    | 0, _ => exact ⟨.inl ⟨rfl, rfl⟩, fun _ => hs.1⟩
    | 1, _ => exact ⟨.inr ⟨rfl, rfl⟩, fun _ => hs.1⟩
    | 2, _ => exact ⟨.inl ⟨rfl, rfl⟩, fun _ => by show 1000 ≤ max b.z 1000; omega⟩
    | 3, _ => exact ⟨.inl ⟨rfl, rfl⟩, fun hz => by have hz : rate = 0 := hz; show 1000 ≤ b.z; omega⟩
  · refine fin _ (legsTo_len _ _ _ _ _ _ 4) hk3 ?_ ?_ ?_
    · intro m hm
      obtain ⟨k, hk, rfl⟩ := legs_mem hm
      obtain ⟨q1, q2, q3, _⟩ := hleg k
      have := hfl k hk
      refine ⟨q1, q2, ?_, by omega⟩
      show (if k = 3 then rate else 0) ≤ 40000000
      split <;> omega
    · intro m hm
      obtain ⟨k, hk, rfl⟩ := legs_mem hm
      exact (hst k).1
    · have := legs_cost (S := S) (A := A) (J := J) fB (fun k => (hst k).2) 4
      have e : ((List.range 4).map fB).sum = 18608 := by decide
      omega
end Go.Proofs.Ytoinimkmoojcoaa
/- After a breakage the pieces lead to its place; the motions of a trip are accepted. -/
set_option linter.unusedSimpArgs false
set_option linter.unusedVariables false
namespace Go.Proofs.Ytoinimkmoojcoaa
open Go Go.Dm
theorem Acc.linked {ms : List Mot} {i : Nat} {p : P3} {ps : List Mot} (h : Acc ms i p ps) : Linked (firstFr ms) ps ∧ endM (firstFr ms) ps = p := by
  induction h with
  | start => exact ⟨trivial, rfl⟩
  | next _ _ ih => exact ih
  | step _ _ h2 _ _ _ _ ih => exact ⟨ih.1.append ⟨h2.trans ih.2.symm, trivial⟩, endM_last _ _ _⟩
theorem brk_linked {s : CS} (h : s.Path) (ho : s.Ok) (hb : s.broken = false) : Linked (fromM s.pos s.ms) s.brk.done ∧ endM (fromM s.pos s.ms) s.brk.done = s.pos := by
  obtain ⟨e1, e2, e3, e4, e5, e6, e7, e8, e9, e10, e11, e12, e13⟩ := push_eq s
  have hbrk : s.brk = { s.push.toPos with plan := [], cov := 0, braking := false, held := false, broken := true } := by simp [CS.brk, hb]
  have hd : s.brk.done = s.pieces ++ (if s.piece.2 then [s.piece.1] else []) := by
    unfold CS.done
    rw [brk_rest hb]
    rw [hbrk]
    simp only [Bool.not_true, Bool.and_false, Bool.false_eq_true, if_false, List.append_nil]
    exact e13
  have hff : fromM s.pos s.ms = firstFr s.ms := by
    unfold fromM firstFr
    by_cases h0 : s.ms.length = 0
    · rw [if_pos h0, if_neg (by omega)]
      unfold CS.pos; rw [if_pos h0]
    · rw [if_neg h0, if_pos (by omega)]
  rw [hff, hd]
  obtain ⟨l1, l2⟩ := h.acc.linked
  by_cases hi : s.index = s.ms.length
  · have hp : s.piece.2 = false := by unfold CS.piece; rw [if_pos hi]
    rw [hp]
    simp only [Bool.false_eq_true, if_false, List.append_nil]
    refine ⟨l1, l2.trans (h.still ho fun hx => by omega)⟩
  · have hp : s.piece = (s.seg, decide (¬ s.last = s.pos)) := by unfold CS.piece; rw [if_neg hi]
    rw [hp]
    by_cases hq : s.last = s.pos
    · simp only [hq, not_true, decide_false, Bool.false_eq_true, if_false, List.append_nil]
      exact ⟨l1, l2.trans hq⟩
    · simp only [hq, not_false_iff, decide_true, if_true]
      refine ⟨l1.append ⟨?_, trivial⟩, ?_⟩
      · rw [l2]; rfl
      · rw [endM_last]; rfl
theorem okT_quick {S A J : Int} {ws : List Way} (h : okT S A J ws = true) : Quick S A J ∧ ws.length ≤ 6 := by
  simp only [okT, Bool.and_eq_true, decide_eq_true_eq] at h
  exact ⟨⟨h.1.1.1.2, h.1.1.2, h.1.2, h.2⟩, h.1.1.1.1⟩
theorem trip_ok {S A J : Int} {ws : List Way} {p : P3} (h : okT S A J ws = true) (hp : inP p 0) (hf : ∀ w ∈ ws, w.Fit) :
    Quick S A J ∧ Linked p (motsT ws p 0) ∧ (∀ m ∈ motsT ws p 0, m.Small) ∧ (motsT ws p 0).length ≤ 6 ∧ checkM S A J (motsT ws p 0) = 0 ∧ (∀ m ∈ motsT ws p 0, 0 ≤ m.rate ∧ m.rate ≤ 9223372036854775807) := by
  obtain ⟨hq, h6⟩ := okT_quick h
  obtain ⟨a, b, c⟩ := motsT_ok ws p 0 hp (by omega) hf
  have hr : ∀ m ∈ motsT ws p 0, 0 ≤ m.rate ∧ m.rate ≤ 9223372036854775807 := fun m hm => by
    have := (b m hm).rate; have := (b m hm).top; omega
  refine ⟨hq, a, b, by omega, checkM_of hq.valid (fun m hm => (hr m hm).1) a.conn (fun m hm => (b m hm).near) (by omega) (fun m hm => ?_), hr⟩
  have hl := len_le (b m hm).near
  have hs := (b m hm).short
  exact (hq.cost (b m hm).near (b m hm).rate (by omega)).1
end Go.Proofs.Ytoinimkmoojcoaa
