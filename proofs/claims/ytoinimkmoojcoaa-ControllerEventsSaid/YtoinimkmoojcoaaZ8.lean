/- ControllerEvents returns true for every input, and leaves its arguments as they were. -/
import Derived.Test.YtoinimkmoojcoaaG9
import Derived.Test.YtoinimkmoojcoaaRows
import Derived.Test.YtoinimkmoojcoaaG7
import Derived.ShutString
set_option linter.unusedSimpArgs false
set_option linter.unusedVariables false
namespace Go.Proofs.Ytoinimkmoojcoaa
open Go Go.Dm
/-- Each step is safe behind the one before it. -/
def Chn (S A j : Int) : Int → List Int → Prop
  | _, [] => True
  | p, x :: r => safeM S A j x (x - p) = true ∧ Chn S A j x r
theorem next_safe {S A j v a rest b : Int} (h : nextM S A j v a rest = some b) : safeM S A j (v + b) b = true := by
  unfold nextM at h
  simp only at h
  split at h
  · cases h
  · split at h
    · rename_i hf
      injection h with h
      have := bisUp_pass (p := fitsM S A j v rest) 20 _ (min (min A (a + j)) (rest - v)) hf
      rw [h] at this
      simp only [fitsM, Bool.and_eq_true] at this
      exact this.1.2
    · cases h
theorem fastL_chn {S A j : Int} : ∀ (k : Nat) (v a rest : Int) (l : List Int), fastL S A j k v a rest = some l → Chn S A j v l := by
  intro k
  induction k with
  | zero =>
    intro v a rest l h
    simp only [fastL] at h
    split at h
    · cases h
    · injection h with h; subst h; trivial
  | succ k ih =>
    intro v a rest l h
    simp only [fastL] at h
    split at h
    · cases hn : nextM S A j v a rest with
      | none => rw [hn] at h; cases h
      | some b =>
        rw [hn] at h
        simp only [Option.bind_some] at h
        cases hf : fastL S A j k (v + b) b (rest - (v + b)) with
        | none => rw [hf] at h; cases h
        | some r =>
          rw [hf] at h
          injection h with h
          subst h
          refine ⟨?_, ih _ _ _ _ hf⟩
          rw [show v + b - v = b by omega]
          exact next_safe hn
    · injection h with h; subst h; trivial
theorem fbL_le {u : Int} (hu : 0 < u) : ∀ (k : Nat) (rest : Int), ∀ x ∈ fbL u k rest, 1 ≤ x ∧ x ≤ u := by
  intro k
  induction k with
  | zero => intro rest x hx; simp [fbL] at hx
  | succ k ih =>
    intro rest x hx
    simp only [fbL] at hx
    split at hx
    · rcases List.mem_cons.1 hx with rfl | hx
      · have h1 := Int.emod_nonneg (rest - 1) (show u ≠ 0 by omega)
        have h2 := Int.emod_lt_of_pos (rest - 1) hu
        omega
      · exact ih _ x hx
    · cases hx
theorem simple_chn {S A j : Int} (hv : validM S A j = true) : ∀ (l : List Int) (p : Int), 0 ≤ p → p ≤ simpleM S A j → (∀ x ∈ l, 1 ≤ x ∧ x ≤ simpleM S A j) → Chn S A j p l := by
  intro l
  induction l with
  | nil => intro p _ _ _; trivial
  | cons x r ih =>
    intro p p0 p1 h
    have hx := h x (by simp)
    refine ⟨?_, ih x (by omega) hx.2 fun y hy => h y (by simp [hy])⟩
    have hu : simpleM S A j ≤ S ∧ simpleM S A j ≤ A ∧ simpleM S A j ≤ j / 2 := by unfold simpleM; omega
    rw [valid_iff] at hv
    rw [safe_iff]
    have hj : j / 2 ≤ j := by omega
    refine ⟨by omega, by omega, by omega, by omega, fun _ => ?_, fun _ => ?_⟩
    · rw [fad_small (by omega)]; omega
    · rw [fad_small (by omega)]; omega
theorem steps_chn {S A j m : Int} (h : (stepsM S A j m).2 = 0) : Chn S A j 0 (stepsM S A j m).1 := by
  have hs := steps_sum h
  have hv := hs.1
  have hu := simple_pos2 hv
  unfold stepsM at *
  simp only at *
  split
  · trivial
  · split
    · trivial
    · split
      · rename_i l hl
        unfold fastM at hl
        split at hl
        · cases hl
        · cases hf : fastL S A j (ticksM S A j m).1.toNat 0 0 m with
          | none => rw [hf] at hl; cases hl
          | some l' =>
            rw [hf] at hl
            simp only [Option.bind_some] at hl
            split at hl
            · injection hl with hl; subst hl; exact fastL_chn _ _ _ _ _ hf
            · cases hl
      · exact simple_chn hv _ 0 (Int.le_refl 0) (by omega) (fbL_le hu _ _)
theorem Chn.at {S A j : Int} : ∀ {l : List Int} {p : Int}, Chn S A j p l → ∀ k, k < l.length → safeM S A j l[k]! (l[k]! - if 0 < k then l[k - 1]! else p) = true
  | [], _, _, k, hk => by simp at hk
  | x :: r, p, h, 0, _ => by simpa using h.1
  | x :: r, p, h, k + 1, hk => by
    have := h.2.at k (by simpa using hk)
    rw [if_pos (by omega)]
    cases k with
    | zero => simpa using this
    | succ k => simpa using this
/-- The plan of a controller that is not braking. -/
def CS.Smooth (s : CS) : Prop := s.resting = false → s.braking = false → Chn s.lim s.A s.J 0 s.plan
theorem CS.Smooth.soft {s : CS} (h : s.Smooth) (hr : s.Run) (hg : s.Begun) : s.Soft := by
  intro hq hb
  have hcv : s.cov < s.plan.length := by
    have := hr.cov.2
    simp only [CS.resting, decide_eq_false_iff_not] at hq
    omega
  have h1 := hg hcv hb
  have hc := h hq hb
  have hv := lim_valid (r := s.cur.rate) hr.ok.lim
  change validM s.lim s.A s.J = true at hv
  have ha := hc.at (s.cov - 1).toNat (by omega)
  have hlast : s.plan[(s.cov - 1).toNat]! = s.lastStep := rfl
  have hbef : (if 0 < (s.cov - 1).toNat then s.plan[(s.cov - 1).toNat - 1]! else 0) = s.before := by
    unfold CS.before
    by_cases h2 : 1 < s.cov
    · rw [if_pos (by omega), if_pos h2, show (s.cov - 1).toNat - 1 = (s.cov - 2).toNat by omega]
    · rw [if_neg (by omega), if_neg h2]
  rw [hlast, hbef] at ha
  have hs1 := safe_iff.1 ha
  have hb1 : 0 ≤ s.before ∧ s.before ≤ s.lim := by
    rw [← hbef]
    by_cases h2 : 0 < (s.cov - 1).toNat
    · rw [if_pos h2]
      have := safe_iff.1 (hc.at ((s.cov - 1).toNat - 1) (by omega))
      exact ⟨this.1, this.2.1⟩
    · rw [if_neg h2]
      rw [valid_iff] at hv; omega
  unfold movingM
  rw [hv, within_iff.2 hb1, within_iff.2 ⟨hs1.1, hs1.2.1⟩, ha]; rfl
theorem stop_smooth {q : CS} : q.stop.Smooth := fun h => by
  obtain ⟨_, _, _, _, e5, e6, _⟩ := stop_eq q
  simp [CS.resting, e5, e6] at h
theorem CS.Smooth.tick {s : CS} (h : s.Smooth) (hr : s.Run) : s.tick.Smooth := by
  unfold CS.tick
  split
  · rename_i hm
    unfold CS.rest
    split
    · exact stop_smooth
    · rename_i hrest
      intro _ hb
      show Chn s.planned.lim s.planned.A s.planned.J 0 s.planned.plan
      have hb : s.planned.braking = false := hb
      cases hq : s.resting with
      | true =>
        have hp : s.planned = { s with plan := s.steps.1, cov := 0, braking := false } := by simp [CS.planned, hq]
        have h2 : s.steps.2 = 0 := by
          simp only [CS.moves, Bool.and_eq_true, Bool.or_eq_true, Bool.not_eq_true', hq, decide_eq_true_eq] at hm
          rcases hm.2 with h | h
          · cases h
          · exact h.1.2
        rw [hp]
        exact steps_chn h2
      | false =>
        have hp : s.planned = s := by simp [CS.planned, hq]
        rw [hp] at hb ⊢
        exact h hq hb
  · exact h
theorem CS.Smooth.hold {s : CS} (h : s.Smooth) : s.hold.Smooth := by
  unfold CS.hold
  split
  · exact h
  · split
    · split
      · exact stop_smooth
      · intro _ hb; cases hb
    · exact h
theorem brk_rest {s : CS} (hb : s.broken = false) : s.brk.resting = true := by
  simp [CS.brk, hb, CS.resting]
theorem CS.Smooth.brk {s : CS} (h : s.Smooth) : s.brk.Smooth := by
  cases hb : s.broken with
  | true => rw [show s.brk = s by simp [CS.brk, hb]]; exact h
  | false => intro hx; rw [brk_rest hb] at hx; cases hx
theorem CS.Smooth.new {S A J : Int} {ms : List Mot} : (CS.new S A J ms).Smooth := fun h => by cases h
/-! ### Standing still -/
theorem Acc.end_ {ms : List Mot} {i : Nat} {p : P3} {ps : List Mot} (h : Acc ms i p ps) (hi : i = ms.length) : (ms.length = 0 → p = ⟨0, 0, 0⟩) ∧ (0 < ms.length → p = (ms[ms.length - 1]!).to) := by
  cases h with
  | start =>
    refine ⟨fun h => ?_, fun h => by omega⟩
    unfold firstFr; rw [if_neg (by omega)]
  | next h1 _ =>
    refine ⟨fun h => by omega, fun _ => ?_⟩
    rw [← hi]; simp
  | step h1 => omega
theorem CS.Path.still {s : CS} (h : s.Path) (ho : s.Ok) (hz : s.index < s.ms.length → s.part = 0) : s.last = s.pos := by
  by_cases hi : s.index < s.ms.length
  · obtain ⟨p, p0, p1, pe⟩ := h.at0 hi
    rw [CS.pos_at hi ho.idx.1, hz hi, pe, show p = 0 by have := hz hi; omega]
  · have hie : s.index = s.ms.length := by have := ho.idx.2; omega
    have := h.acc.end_ (by omega)
    unfold CS.pos
    by_cases h0 : s.ms.length = 0
    · rw [if_pos h0]; exact this.1 h0
    · rw [if_neg h0, if_pos hie, this.2 (by omega), hie, show ((s.ms.length : Int) - 1).toNat = s.ms.length - 1 by omega]
theorem stop_still {s : CS} (h : s.Ok) (hi : s.index < s.ms.length) (hp : s.stop.Path) : s.stop.last = s.stop.pos := by
  have hrun := CS.Run.stop h hi
  by_cases hz : s.part = s.cur.len
  · refine hp.still hrun.ok fun _ => ?_
    rw [go_end h hi hz]; rfl
  · rw [go_rest h hi hz]; rfl
theorem CS.Still.tick {s : CS} (h : s.Still) (hr : s.Run) (hp : s.Path) : s.tick.Still := by
  have ht := hp.tick hr
  revert ht
  unfold CS.tick
  split
  · rename_i hm
    obtain ⟨_, hi, hr2, hc⟩ := hr.mv hm
    have hg := hr2.go hc
    obtain ⟨c1, _, _, _, c5, _⟩ := planned_eq s
    unfold CS.rest
    split
    · intro ht _
      exact stop_still hg.ok (by show s.planned.index < (s.planned.ms.length : Int); rw [c1, c5]; exact hi) ht
    · rename_i hrest
      intro _ hx; exact absurd hx hrest
  · intro _; exact h
theorem CS.Still.hold {s : CS} (h : s.Still) (hr : s.Run) (hp : s.Path) : s.hold.Still := by
  have ht := hp.hold hr
  revert ht
  unfold CS.hold
  split
  · intro _; exact h
  · split
    · rename_i hb
      have h2 := hr.braked hb
      split
      · have hcv : s.cov < s.plan.length := by
          simp only [CS.brakes, Bool.and_eq_true, Bool.not_eq_true', Bool.or_eq_false_iff, decide_eq_true_eq] at hb
          have := hr.cov.2
          have h1 := hb.1.1.1.1
          simp only [CS.resting, decide_eq_false_iff_not] at h1
          omega
        intro ht _
        exact stop_still (s := s.braked) h2.ok (hr.sum hcv).1 ht
      · rename_i hne
        intro _ hx
        have hx : decide ((0 : Int) = s.stopping.1.length) = true := hx
        simp only [decide_eq_true_eq] at hx
        omega
    · intro _; exact h
theorem CS.Still.brk {s : CS} (h : s.Still) : s.brk.Still := by
  cases hb : s.broken with
  | true => rw [show s.brk = s by simp [CS.brk, hb]]; exact h
  | false =>
    intro _
    obtain ⟨e1, _, _, _, e5, e6, _⟩ := push_eq s
    have hbrk : s.brk = { s.push.toPos with plan := [], cov := 0, braking := false, held := false, broken := true } := by simp [CS.brk, hb]
    rw [hbrk]; rfl
theorem CS.Still.new {S A J : Int} {ms : List Mot} (h : Right S A J ms) (hc : Conn ms) : (CS.new S A J ms).Still := fun _ =>
  (CS.Path.new h hc).still (CS.Run.new h.check h.rate).ok fun _ => rfl
/-- What holds between the words of the statement on events. -/
structure Ev (S A J : Int) (ms : List Mot) (k : Nat) (s : CS) : Prop where
  run : s.Run
  begun : s.Begun
  ms : s.ms = ms
  few : s.pieces.length ≤ k
  smooth : s.Smooth
  still : s.Still
  alive : s.broken = false → s.Path
  dead : s.broken = true → s.resting = true
theorem dead_tick {s : CS} (h : s.broken = true) : s.tick = s := by simp [CS.tick, CS.moves, h]
theorem Ev.tick {S A J : Int} {ms : List Mot} {k : Nat} {s : CS} (h : Ev S A J ms k s) : Ev S A J ms (k + 1) s.tick := by
  obtain ⟨e1, e2, e3, e4, e5, e6, e7⟩ := tick_eq s
  cases hb : s.broken with
  | true => rw [dead_tick hb]; exact ⟨h.run, h.begun, h.ms, by have := h.few; omega, h.smooth, h.still, h.alive, h.dead⟩
  | false => exact ⟨h.run.tick, h.begun.tick h.run, e1.trans h.ms, by have := h.few; omega, h.smooth.tick h.run, h.still.tick h.run (h.alive hb), fun _ => (h.alive hb).tick h.run, fun hx => by rw [e6, hb] at hx; cases hx⟩
theorem Ev.hold {S A J : Int} {ms : List Mot} {k : Nat} {s : CS} (h : Ev S A J ms k s) : Ev S A J ms (k + 1) s.hold := by
  obtain ⟨e1, e2, e3, e4, e5, e6⟩ := hold_eq s
  cases hb : s.broken with
  | true => rw [show s.hold = s by simp [CS.hold, hb]]; exact ⟨h.run, h.begun, h.ms, by have := h.few; omega, h.smooth, h.still, h.alive, h.dead⟩
  | false => exact ⟨h.run.hold, h.begun.hold, e1.trans h.ms, by have := h.few; omega, h.smooth.hold, h.still.hold h.run (h.alive hb), fun _ => (h.alive hb).hold h.run, fun hx => by rw [e5, hb] at hx; cases hx⟩
theorem Ev.resume {S A J : Int} {ms : List Mot} {k : Nat} {s : CS} (h : Ev S A J ms k s) : Ev S A J ms (k + 1) { s with held := false } :=
  ⟨h.run.held false, h.begun, h.ms, by have := h.few; show s.pieces.length ≤ _; omega, h.smooth, h.still, fun hb => (h.alive hb).held false, h.dead⟩
theorem Ev.brk {S A J : Int} {ms : List Mot} {k : Nat} {s : CS} (h : Ev S A J ms k s) : Ev S A J ms (k + 1) s.brk := by
  obtain ⟨e1, e2, e3, e4, e5, e6, e7, e8⟩ := brk_eq s
  refine ⟨h.run.brk, ?_, e1.trans h.ms, by have := h.few; omega, h.smooth.brk, h.still.brk, fun hx => (by rw [e7] at hx; cases hx), fun _ => ?_⟩
  · cases hb : s.broken with
    | true => rw [show s.brk = s by simp [CS.brk, hb]]; exact h.begun
    | false => exact .still (by simp [CS.brk, hb]) (by simp [CS.brk, hb])
  · cases hb : s.broken with
    | true => rw [show s.brk = s by simp [CS.brk, hb]]; exact h.dead hb
    | false => exact brk_rest hb
theorem Ev.new {S A J : Int} {ms : List Mot} (h : Right S A J ms) (hc : Conn ms) : Ev S A J ms 0 (CS.new S A J ms) :=
  ⟨CS.Run.new h.check h.rate, .still rfl rfl, rfl, Nat.le_refl 0, .new, .new h hc, fun _ => .new h hc, fun h => by cases h⟩
theorem Ev.more {S A J : Int} {ms : List Mot} {k k' : Nat} {s : CS} (h : Ev S A J ms k s) (hk : k ≤ k') : Ev S A J ms k' s := ⟨h.run, h.begun, h.ms, by have := h.few; omega, h.smooth, h.still, h.alive, h.dead⟩
end Go.Proofs.Ytoinimkmoojcoaa
/- Walks, part L32. -/
set_option maxRecDepth 100000
set_option maxHeartbeats 4000000
set_option linter.unusedSimpArgs false
set_option linter.unusedVariables false
namespace Go.Proofs.Ytoinimkmoojcoaa
open Go Go.Dm
attribute [local simp ↓] RunS_nil RunS_op RunS_guard RunT_nil RunT_op RunT_guard opS_call opD_call opS_move opD_move opS_assign opD_assign opS_pick opD_pick opS_nilCheck opD_nilCheck opS_fieldAddr opD_fieldAddr opS_indexAddr opD_indexAddr opS_load opD_load opS_store opD_store opS_alloc opD_alloc opS_box opD_box opS_build opD_build opS_buildSlice opD_buildSlice opS_field opD_field opS_extract opD_extract opS_makeFunc opD_makeFunc opS_slice opD_slice opS_binOp opD_binOp opS_unOp opD_unOp opS_convert opD_convert opS_index opD_index opS_len opD_len opS_append opD_append opS_max opD_max opS_min opD_min obind_some obind_none thenH_normal thenH_ret thenH_exit blockA_normal blockA_ret blockA_exit thenA_normal thenA_ret thenA_exit dstAt_mk dstL_zero dstL_succ
attribute [local simp] undef wantG_bool wantG_undef findO_some calleeS find putA ev closed3 closed2 closed1 closed0 pickA binF unF convF mxF eqNilA fastBin fastUn fastConv intBin argEnv resultsA resultsL resultA notTuple allocs eff
  loadO storeO allocO boxO sliceO indexO indexAddrA loadA storeA newA isAggT nilCheckA lenA evAll evParts aadd gen upd_at upd_upd Value.cells mxV Pairs apart readsS labOf putAt fieldA partA extractA makeFuncA evOpt boundOf sliceA Nat.add_assoc
attribute [local simp] bu107_z bu107_0_1 bu25_0_1_2 bu36_z bu36_0_1 bu36_0_1_2 bu36_0 bu38_z bu38_0_1_2_3_4 bu38_0_1_3 bu38_0_1_3_4 bu38_1_2 bu38_1_2_3 bu52_0_1_10 bu81_0_1 bs22_0_z bs22_1_0 bs22_2_0_1 bs39_1_0 bs39_7_0_1_2_3_4_5_6 bs95_4_0_1_2_3
attribute [local simp ↓] eql107 neq107 eql36 neq36 eql38 neq38 eql25 neq25
attribute [local simp] fa25_0 fa25_1 fa25_2 fa36_0 fa36_1 fa36_2 fa38_0 fa38_1 fa38_2 fa38_3 fa38_4 fa107_0 fa107_1 fa81_0 fa81_1 fa81_2 fa81_3 fa81_4 fa81_5 fa81_6 fa81_7 fa81_8 fa81_9 fa81_10 fa52_0 fa52_1 fa52_2 fa52_3 fa52_4 fa52_5 fa52_6 fa52_7 fa52_8 fa52_9 fa52_10 fa52_11 fa52_12
attribute [local simp] c22 c39 c29 z22 z39 c25 c38 c2 c3 c4 c36 c107 c30 z25 z38 z2 z3 z4 z36 z107 b38 b25 b107 h38 h25 h36 h107 g38 g25 g36 g107 Try.underlying25 Try.underlying38 Try.underlying2 Try.underlying3 Try.underlying4 Try.underlying36 Try.underlying22 Try.underlying39 Try.underlying29 Try.underlying81 Try.underlying107 Try.underlying30
attribute [local simp] mx mn eqBool
attribute [local simp] Try.underlying57 Try.underlying5 Try.underlying23 c57 c5 c23 c52 z52 b52 h52 g52 Try.underlying52 Try.underlying44
theorem Two.up {h h' : Heap} {n n' C M : Nat} {s t : CS} {lv : Value} (ht : Two h n C M s t lv) (hlt : ∀ L b, h L = some b → L < n) (hs : ∀ L, L < n → h' L = h L) (hn : n ≤ n') : Two h' n' C M s t lv := by
  obtain ⟨h1, h2, h3, Lp, mv, pl, pv, b, l, br, pl', dv, hc, h4, h5, hm, h6⟩ := ht
  have hf : Fz h h' := fun L b x _ => by rw [hs L (hlt L b x)]; exact x
  exact ⟨by omega, by omega, h3, Lp, mv, pl, pv, b, l, br, pl', dv, hc.keep (hs C h1) (hs Lp h4) hf, by omega, h5, hm.fz (hs M h2) hf, h6⟩
/-- Between the words: the temporaries, the operations, the two. -/
def at32 (C M : Nat) (Ao : Option Addr) (co : Nat) (ops : List Int) (S A J : Int) (ms : List Mot) (lv : Value) (i : Int) (k : Nat) (T : TEnv) (h' : Heap) (n' : Nat) : Prop :=
  find T 0 = some (pC C) ∧ find T 1 = some (pC M) ∧ find T 10 = some (.slice Ao ops.length co) ∧ find T 11 = some (.int .i64 ops.length) ∧ find T 12 = some (.int .i64 i) ∧ RO h' 1 (.slice Ao ops.length co) (u8s ops) ops.length ∧ ∃ s, Two h' n' C M s s lv ∧ Ev S A J ms k s
def at32n (C M : Nat) (Ao : Option Addr) (co : Nat) (ops : List Int) (S A J : Int) (ms : List Mot) (lv : Value) (i : Int) (k : Nat) (T : TEnv) (h' : Heap) (n' : Nat) : Prop :=
  at32 C M Ao co ops S A J ms lv i k T h' n' ∧ ∃ nn : Int, 0 ≤ nn ∧ nn ≤ 10 ∧ find T 9 = some (.int .i64 nn)
def at32s (C M : Nat) (Ao : Option Addr) (co : Nat) (ops : List Int) (S A J : Int) (ms : List Mot) (lv : Value) (i : Int) (k : Nat) (T : TEnv) (h' : Heap) (n' : Nat) : Prop :=
  at32 C M Ao co ops S A J ms lv i k T h' n' ∧ find T 9 = some (.int .i64 1) ∧ ∃ c, find T 37 = some (.bool c)
theorem w32 {h : Heap} {n C M : Nat} {s : CS} {lv ov : Value} {ms : List Mot} {S A J : Int} {ops : List Int} (two : Two h n C M s s lv) (ev : Ev S A J ms 0 s) (htot : totL ms ms.length ≤ 2000) (ho : RO h 1 ov (u8s ops) ops.length) (hby : ∀ x ∈ ops, 0 ≤ x ∧ x ≤ 255) (h60 : ops.length ≤ 60) :
    Dm.Spec Try.prog 32 [pC C, pC M, ov] h n fun r _ _ => r = .bool true := by
  refine Spec.body Try.func32 rfl (by kernel_rfl) Try.ntmps32 (by rw [Try.results32]) (Nat.le_of_ble_eq_true rfl) ?_
  obtain ⟨Ao, co, rfl⟩ := ho.len
  refine Sat.sq ?_
  refine Sat.reg (by kernel_rfl) ?_
  simp -dsimp
  refine Sat.join (fun _ _ _ => True) ?_ ?_
  rotate_left
  · rintro T h' n' -
    refine Sat.sq ?_
    refine Sat.reg (by kernel_rfl) ?_
    simp -dsimp
    refine Sat.ret ?_
    try simp -dsimp only [thenH_ret, blockA_ret, thenA_ret]
    exact RetQ.ret (r := .bool true) (by rfl) rfl
  refine Sat.sq ?_
  refine Sat.reg (by kernel_rfl) ?_
  simp -dsimp
  refine Sat.block ?_
  refine Sat.loop (ι := Int) (fun i T h' n' => at32 C M Ao co ops S A J ms lv i (11 * i.toNat) T h' n' ∧ 0 ≤ i ∧ i ≤ ops.length) (fun i => (ops.length - i).toNat) 0 ?_ ?_
  · exact ⟨⟨rfl, rfl, rfl, rfl, rfl, ho, s, two, ev⟩, by simp, by simp⟩
  clear two ev ho
  rintro i T h' n' ⟨⟨t0, t1, t10, t11, t12, hro, s, two, ev⟩, i0, i1⟩
  refine Sat.sq ?_
  refine Sat.reg (by kernel_rfl) ?_
  simp -dsimp [t11, t12]
  refine Sat.sq ?_
  refine Sat.ite rfl (fun hq => ?_) (fun hq => ?_)
  rotate_left
  · refine Sat.exit ?_
    simp -dsimp
  have hq : i < ops.length := by simpa using hq
  obtain ⟨B, o, sp, b, hB, hbo, idx, ld⟩ := hro.u8 i0 hq
  have hb := hby _ (by rw [getElem!_pos ops i.toNat (by omega)]; exact List.getElem_mem _ : ops[i.toNat]! ∈ ops)
  generalize ops[i.toNat]! = x at *
  refine Sat.skip ?_
  simp -dsimp
  refine Sat.join (at32 C M Ao co ops S A J ms lv i (11 * i.toNat + 11)) ?_ ?_
  rotate_left
  · rintro T2 h2 n2 ⟨t0, t1, t10, t11, t12, hro, s, two, ev⟩
    have W : IntKind.i64.wrap (i + 1) = i + 1 := wrap_in (by omega) (by omega)
    refine Sat.reg (by kernel_rfl) ?_
    simp -dsimp [t12, W]
    refine ⟨i + 1, ⟨⟨by simp [t0, find], by simp [t1, find], by simp [t10, find], by simp [t11, find], rfl, hro, s, two, ev.more (by omega)⟩, by omega, by omega⟩, by omega⟩
  refine Sat.block ?_
  refine Sat.sq ?_
  refine Sat.reg (by kernel_rfl) ?_
  simp -dsimp [t10, t12, -indexAddrA, idx, ↓ld, hB]
  refine Sat.sq ?_
  refine Sat.reg (by kernel_rfl) ?_
  simp -dsimp
  have few := ev.few
  refine Sat.join (at32n C M Ao co ops S A J ms lv i (11 * i.toNat + 1)) ?_ ?_
  · refine Sat.sq ?_
    refine Sat.reg (by kernel_rfl) ?_
    simp -dsimp
    refine Sat.block ?_
    refine Sat.sq ?_
    refine Sat.reg (by kernel_rfl) ?_
    simp -dsimp
    refine Sat.ite rfl (fun hz => ?_) (fun hz => ?_)
    · refine Sat.sq ?_
      refine Sat.reg (by kernel_rfl) ?_
      simp -dsimp [t0]
      refine (two.chold ev.run ev.begun (by omega)).onH ?_
      rintro r h2 n2 ⟨rfl, two2, hn2, hf2⟩
      simp -dsimp
      refine Sat.sq ?_
      refine Sat.reg (by kernel_rfl) ?_
      simp -dsimp [t1]
      refine (two2.mhold ev.run (ev.smooth.soft ev.run ev.begun) (by omega)).onH ?_
      rintro r h3 n3 ⟨rfl, two3, hn3, hf3⟩
      simp -dsimp
      refine Sat.reg (by kernel_rfl) ?_
      simp -dsimp
      exact ⟨⟨by simp [t0, find], by simp [t1, find], by simp [t10, find], by simp [t11, find], by simp [t12, find], (hro.fz hf2).fz hf3, _, two3, ev.hold⟩, 0, by omega, by omega, rfl⟩
    refine Sat.sq ?_
    refine Sat.reg (by kernel_rfl) ?_
    simp -dsimp
    refine Sat.ite rfl (fun hz => ?_) (fun hz => ?_)
    · refine Sat.sq ?_
      refine Sat.reg (by kernel_rfl) ?_
      simp -dsimp [t0]
      refine two.cresume.onH ?_
      rintro r h2 n2 ⟨rfl, ⟨g1, g2, g3, Lp, mv, pl, pv, b1, l1, br1, pl', dv, hc, g4, g5, hm, g6⟩, hn2, hf2⟩
      have nM := ne2 (show M < n2 by omega)
      obtain ⟨Al, cl, hlv⟩ := hm.mot.len
      simp -dsimp
      refine Sat.sq ?_
      refine Sat.reg (by kernel_rfl) ?_
      simp -dsimp [t1, hm.blk, nM]
      have hm3 := hm.put (s' := { s with held := false }) (b' := b1) (l' := l1) (br' := br1) rfl hm.plan hm.done hm.dnil
      have hf3 : Fz h2 (upd h2 M ⟨mCells lv pl' dv { s with held := false } b1 l1 br1, 52, 0, true⟩) := Fz.upd fun b' hb => by rw [hm.blk] at hb; cases hb; rfl
      have hc3 := hc.keep (h' := upd h2 M ⟨mCells lv pl' dv { s with held := false } b1 l1 br1, 52, 0, true⟩) (by rw [upd_at, if_neg (Ne.symm g3)]) (by rw [upd_at, if_neg (Ne.symm g5)]) hf3
      dsimp only [mCells] at hm3 hf3 hc3
      generalize upd h2 M _ = g9 at *
      refine Sat.reg (by kernel_rfl) ?_
      simp -dsimp
      exact ⟨⟨by simp [t0, find], by simp [t1, find], by simp [t10, find], by simp [t11, find], by simp [t12, find], (hro.fz hf2).fz hf3, _, ⟨g1, g2, g3, Lp, mv, pl, pv, b1, l1, br1, pl', dv, hc3, g4, g5, hm3, g6⟩, ev.resume⟩, 0, by omega, by omega, rfl⟩
    refine Sat.sq ?_
    refine Sat.reg (by kernel_rfl) ?_
    simp -dsimp
    refine Sat.ite rfl (fun hz => ?_) (fun hz => ?_)
    · refine Sat.sq ?_
      refine Sat.reg (by kernel_rfl) ?_
      simp -dsimp [t0]
      refine (two.cbrk ev.run.ok (by omega)).onH ?_
      rintro r h2 n2 ⟨rfl, two2, hn2, hf2⟩
      simp -dsimp
      refine Sat.sq ?_
      refine Sat.reg (by kernel_rfl) ?_
      simp -dsimp [t1]
      refine (two2.mbrk ev.run ev.still (by omega) ev.dead).onH ?_
      rintro r h3 n3 ⟨rfl, two3, hn3, hf3⟩
      simp -dsimp
      refine Sat.reg (by kernel_rfl) ?_
      simp -dsimp
      exact ⟨⟨by simp [t0, find], by simp [t1, find], by simp [t10, find], by simp [t11, find], by simp [t12, find], (hro.fz hf2).fz hf3, _, two3, ev.brk⟩, 0, by omega, by omega, rfl⟩
    have hat : ∀ T', find T' 0 = find T 0 → find T' 1 = find T 1 → find T' 10 = find T 10 → find T' 11 = find T 11 → find T' 12 = find T 12 → at32 C M Ao co ops S A J ms lv i (11 * i.toNat + 1) T' h' n' := fun T' e0 e1 e2 e3 e4 => ⟨e0.trans t0, e1.trans t1, e2.trans t10, e3.trans t11, e4.trans t12, hro, s, two, ev.more (by omega)⟩
    refine Sat.join (at32s C M Ao co ops S A J ms lv i (11 * i.toNat + 1)) ?_ ?_
    · refine Sat.sq ?_
      refine Sat.reg (by kernel_rfl) ?_
      simp -dsimp
      refine Sat.ite rfl (fun hz => ?_) (fun hz => ?_)
      · refine Sat.skip ?_
        simp -dsimp
        exact ⟨hat _ rfl rfl rfl rfl rfl, rfl, _, rfl⟩
      refine Sat.sq ?_
      refine Sat.reg (by kernel_rfl) ?_
      simp -dsimp
      refine Sat.ite rfl (fun hz => ?_) (fun hz => ?_)
      · refine Sat.skip ?_
        simp -dsimp
        exact ⟨hat _ rfl rfl rfl rfl rfl, rfl, _, rfl⟩
      refine Sat.reg (by kernel_rfl) ?_
      simp -dsimp
      exact ⟨hat _ rfl rfl rfl rfl rfl, rfl, _, rfl⟩
    clear hat t0 t1 t10 t11 t12 hro two ev few hB idx
    rintro T h' n' ⟨⟨t0, t1, t10, t11, t12, hro, s, two, ev⟩, t9, c, t37⟩
    refine Sat.ite t37 (fun hz => ?_) (fun hz => ?_)
    · refine Sat.reg (by kernel_rfl) ?_
      simp -dsimp
      exact ⟨⟨by simp [t0, find], by simp [t1, find], by simp [t10, find], by simp [t11, find], by simp [t12, find], hro, s, two, ev⟩, 10, by omega, by omega, rfl⟩
    · refine Sat.skip ?_
      simp -dsimp
      exact ⟨⟨t0, t1, t10, t11, t12, hro, s, two, ev⟩, 1, by omega, by omega, t9⟩
  clear t0 t1 t10 t11 t12 hro two ev few hB idx
  rintro T h' n' ⟨⟨t0, t1, t10, t11, t12, hro, s, two, ev⟩, nn, nn0, nn1, t9⟩
  refine Sat.join (at32 C M Ao co ops S A J ms lv i (11 * i.toNat + 11)) ?_ ?_
  · refine Sat.sq ?_
    refine Sat.reg (by kernel_rfl) ?_
    simp -dsimp [t9]
    refine Sat.block ?_
    refine Sat.loop (ι := Int) (fun j T h' n' => at32 C M Ao co ops S A J ms lv i (11 * i.toNat + 1 + j.toNat) T h' n' ∧ find T 41 = some (.int .i64 nn) ∧ find T 42 = some (.int .i64 j) ∧ 0 ≤ j ∧ j ≤ nn) (fun j => (nn - j).toNat) 0 ?_ ?_
    · exact ⟨⟨by simp [t0, find], by simp [t1, find], by simp [t10, find], by simp [t11, find], by simp [t12, find], hro, s, two, ev⟩, rfl, rfl, by omega, by omega⟩
    clear t0 t1 t10 t11 t12 t9 hro two ev
    rintro j T h' n' ⟨⟨t0, t1, t10, t11, t12, hro, s, two, ev⟩, t41, t42, j0, j1⟩
    refine Sat.sq ?_
    refine Sat.reg (by kernel_rfl) ?_
    simp -dsimp [t41, t42]
    refine Sat.sq ?_
    refine Sat.ite rfl (fun hq => ?_) (fun hq => ?_)
    rotate_left
    · refine Sat.exit ?_
      simp -dsimp
      exact ⟨by simp [t0, find], by simp [t1, find], by simp [t10, find], by simp [t11, find], by simp [t12, find], hro, s, two, ev.more (by omega)⟩
    have hq : j < nn := by simpa using hq
    have few := ev.few
    refine Sat.skip ?_
    simp -dsimp
    refine Sat.sq ?_
    refine Sat.block ?_
    refine Sat.sq ?_
    refine Sat.reg (by kernel_rfl) ?_
    simp -dsimp [t0]
    refine (two.ctick ev.run (by omega)).onH ?_
    rintro r h2 n2 ⟨rfl, two2, hn2, hf2⟩
    simp -dsimp [t1]
    refine (two2.mtick ev.run ev.begun (by omega) (fun hb hi hh => (ev.alive hb).moves ev.run hb hh (by rw [ev.ms]; exact htot) hi)).onH ?_
    rintro r h3 n3 ⟨rfl, two3, hn3, hf3⟩
    simp -dsimp
    refine Sat.cond (t := false) (by rfl) ?_
    refine Sat.skip ?_
    simp -dsimp
    have W : IntKind.i64.wrap (j + 1) = j + 1 := wrap_in (by omega) (by omega)
    refine Sat.reg (by kernel_rfl) ?_
    simp -dsimp [t41, t42, W]
    refine ⟨j + 1, ⟨⟨by simp [t0, find], by simp [t1, find], by simp [t10, find], by simp [t11, find], by simp [t12, find], (hro.fz hf2).fz hf3, _, two3, ev.tick.more (by omega)⟩, rfl, by omega, by omega⟩, by omega⟩
  clear t0 t1 t10 t11 t12 t9 hro two ev
  rintro T h6 n6 ⟨t0, t1, t10, t11, t12, hro, s, two, ev⟩
  have few := ev.few
  refine Sat.lt fun hlt6 => ?_
  refine Sat.sq ?_
  refine Sat.reg (by kernel_rfl) ?_
  simp -dsimp [t0, t1]
  refine (two.same ev.run).useH ?_
  simp -dsimp [t0]
  have two' := two
  obtain ⟨g1, g2, g3, Lp, mv, pl, pv, b1, l1, br1, pl', dv, hc, g4, g5, hm, g6⟩ := two'
  obtain ⟨Ag, cg, eg⟩ := gcv_val n6 9 s.done.length
  obtain ⟨rd, hsame, hlt7⟩ := gc_ro (e := 38) hlt6 (motCells_length s.done)
  have hdone := w20 hc ev.run.ok (by omega) n6 false
  generalize applyU h6 (gcu n6 38 (motCells s.done) s.done.length false) = h7 at *
  rw [eg] at rd hdone
  refine hdone.useH ?_
  simp -dsimp [t1]
  have hm7 : MRepV h7 M s b1 l1 br1 lv pl' dv := hm.fz (hsame M g2) (fun L b x _ => by rw [hsame L (hlt6 L b x)]; exact x)
  refine (w71 hm7 ev.run (by omega) _).onH ?_
  rintro r h8 n8 ⟨hn8, hs8, hro8⟩
  obtain ⟨A8, c8, rfl⟩ := hro8.len
  have hf78 : Fz h7 h8 := fun L b x _ => by rw [hs8 L (hlt7 L b x)]; exact x
  have hdl : s.done.length ≤ 1000000000000 := by
    unfold CS.done
    rw [List.length_append]
    split <;> simp <;> omega
  simp -dsimp
  refine (w25 (rd.fz hf78) hro8 hdl _).useH ?_
  simp -dsimp
  refine Sat.cond (t := false) (by rfl) ?_
  refine Sat.skip ?_
  simp -dsimp
  have hs68 : ∀ L, L < n6 → h8 L = h6 L := fun L hL => (hs8 L (by omega)).trans (hsame L hL)
  exact ⟨by simp [t0, find], by simp [t1, find], by simp [t10, find], by simp [t11, find], by simp [t12, find], hro.fz (fun L b x _ => by rw [hs68 L (hlt6 L b x)]; exact x), s, two.up hlt6 hs68 (by omega), ev⟩

end Go.Proofs.Ytoinimkmoojcoaa
/- Walks, part L8. -/
set_option maxRecDepth 100000
set_option maxHeartbeats 4000000
set_option linter.unusedSimpArgs false
set_option linter.unusedVariables false
namespace Go.Proofs.Ytoinimkmoojcoaa
open Go Go.Dm
attribute [local simp ↓] RunS_nil RunS_op RunS_guard RunT_nil RunT_op RunT_guard opS_call opD_call opS_move opD_move opS_assign opD_assign opS_pick opD_pick opS_nilCheck opD_nilCheck opS_fieldAddr opD_fieldAddr opS_indexAddr opD_indexAddr opS_load opD_load opS_store opD_store opS_alloc opD_alloc opS_box opD_box opS_build opD_build opS_buildSlice opD_buildSlice opS_field opD_field opS_extract opD_extract opS_makeFunc opD_makeFunc opS_slice opD_slice opS_binOp opD_binOp opS_unOp opD_unOp opS_convert opD_convert opS_index opD_index opS_len opD_len opS_append opD_append opS_max opD_max opS_min opD_min obind_some obind_none thenH_normal thenH_ret thenH_exit blockA_normal blockA_ret blockA_exit thenA_normal thenA_ret thenA_exit dstAt_mk dstL_zero dstL_succ
attribute [local simp] undef wantG_bool wantG_undef findO_some calleeS find putA ev closed3 closed2 closed1 closed0 pickA binF unF convF mxF eqNilA fastBin fastUn fastConv intBin argEnv resultsA resultsL resultA notTuple allocs eff
  loadO storeO allocO boxO sliceO indexO indexAddrA loadA storeA newA isAggT nilCheckA lenA evAll evParts aadd gen upd_at upd_upd Value.cells mxV Pairs apart readsS labOf putAt fieldA partA extractA makeFuncA evOpt boundOf sliceA Nat.add_assoc
attribute [local simp] bu107_z bu107_0_1 bu25_0_1_2 bu36_z bu36_0_1 bu36_0_1_2 bu36_0 bu38_z bu38_0_1_2_3_4 bu38_0_1_3 bu38_0_1_3_4 bu38_1_2 bu38_1_2_3 bu52_0_1_10 bu81_0_1 bs22_0_z bs22_1_0 bs22_2_0_1 bs39_1_0 bs39_7_0_1_2_3_4_5_6 bs95_4_0_1_2_3
attribute [local simp ↓] eql107 neq107 eql36 neq36 eql38 neq38 eql25 neq25
attribute [local simp] fa25_0 fa25_1 fa25_2 fa36_0 fa36_1 fa36_2 fa38_0 fa38_1 fa38_2 fa38_3 fa38_4 fa107_0 fa107_1 fa81_0 fa81_1 fa81_2 fa81_3 fa81_4 fa81_5 fa81_6 fa81_7 fa81_8 fa81_9 fa81_10 fa52_0 fa52_1 fa52_2 fa52_3 fa52_4 fa52_5 fa52_6 fa52_7 fa52_8 fa52_9 fa52_10 fa52_11 fa52_12
attribute [local simp] c22 c39 c29 z22 z39 c25 c38 c2 c3 c4 c36 c107 c30 z25 z38 z2 z3 z4 z36 z107 b38 b25 b107 h38 h25 h36 h107 g38 g25 g36 g107 Try.underlying25 Try.underlying38 Try.underlying2 Try.underlying3 Try.underlying4 Try.underlying36 Try.underlying22 Try.underlying39 Try.underlying29 Try.underlying81 Try.underlying107 Try.underlying30
attribute [local simp] mx mn
attribute [local simp] Try.underlying57 Try.underlying5 Try.underlying23 c57 c5 c23
theorem w8 {h : Heap} {lv ov : Value} {ms : List Mot} {S A J : Int} {ops : List Int} (hr : RO h 9 lv (motCells ms) ms.length) (few : ms.length ≤ 9223372036854775807) (fit : ∀ m ∈ ms, m.Fit) (ho : RO h 1 ov (u8s ops) ops.length) (hby : ∀ x ∈ ops, 0 ≤ x ∧ x ≤ 255) (n : Nat) :
    Dm.Spec Try.prog 8 [lv, limV S A J, ov] h n fun r _ _ => r = .bool true := by
  refine Spec.body Try.func8 rfl (by kernel_rfl) Try.ntmps8 (by rw [Try.results8]) (Nat.le_of_ble_eq_true rfl) ?_
  refine Sat.lt fun hlt => ?_
  obtain ⟨Ao, co, rfl⟩ := ho.len
  have hl1 := lt_fresh (b := ⟨[.int .i64 S, .int .i64 A, .int .i64 J], 23, 0, true⟩) hlt
  have hf1 : Fz h (upd h n ⟨[.int .i64 S, .int .i64 A, .int .i64 J], 23, 0, true⟩) := fun L b x _ => by rw [upd_at, if_neg (by have := hlt L b x; omega)]; exact x
  have hB1 : upd h n ⟨[.int .i64 S, .int .i64 A, .int .i64 J], 23, 0, true⟩ n = some ⟨[.int .i64 S, .int .i64 A, .int .i64 J], 23, 0, true⟩ := by rw [upd_at, if_pos rfl]
  refine Sat.sq ?_
  refine Sat.reg (by kernel_rfl) ?_
  simp -dsimp
  generalize upd h n ⟨[.int .i64 S, .int .i64 A, .int .i64 J], 23, 0, true⟩ = g1 at *
  refine Sat.sq ?_
  refine Sat.reg (by kernel_rfl) ?_
  simp -dsimp [hB1]
  refine (w21 (hr.fz hf1) few fit _).useH ?_
  simp -dsimp
  have hl2 := lt_fresh (b := ⟨[.int .i64 S, .int .i64 A, .int .i64 J], 25, 0, true⟩) hl1
  have hf2 : Fz h (upd g1 (n + 1) ⟨[.int .i64 S, .int .i64 A, .int .i64 J], 25, 0, true⟩) := hf1.trans fun L b x _ => by rw [upd_at, if_neg (by have := hl1 L b x; omega)]; exact x
  have hB2 : upd g1 (n + 1) ⟨[.int .i64 S, .int .i64 A, .int .i64 J], 25, 0, true⟩ (n + 1) = some ⟨[.int .i64 S, .int .i64 A, .int .i64 J], 25, 0, true⟩ := by rw [upd_at, if_pos rfl]
  generalize upd g1 (n + 1) ⟨[.int .i64 S, .int .i64 A, .int .i64 J], 25, 0, true⟩ = g2 at *
  have hr2 := hr.fz hf2
  have ho2 := ho.fz hf2
  refine Sat.join (fun T3 h3 n3 => find T3 0 = some lv ∧ find T3 2 = some (.slice Ao ops.length co) ∧ find T3 7 = some (.pointer (some ⟨n + 1, 0, none⟩)) ∧ h3 = g2 ∧ n3 = n + 2 ∧ rightM S A J ms = true ∧ ops.length ≤ 60) ?_ ?_
  · refine Sat.sq ?_
    refine Sat.reg (by kernel_rfl) ?_
    simp -dsimp
    refine w12.useH ?_
    cases hR : rightM S A J ms
    · simp -dsimp
      refine Sat.cond (t := true) (by rfl) ?_
      refine Sat.sq ?_
      refine Sat.reg (by kernel_rfl) ?_
      simp -dsimp
      refine w12.useH ?_
      simp -dsimp
      refine Sat.ret ?_
      try simp -dsimp only [thenH_ret, blockA_ret, thenA_ret]
      exact RetQ.ret (r := .bool true) (by rfl) rfl
    · by_cases h60 : ops.length ≤ 60
      · have h60' : ¬ (60 : Int) < ops.length := by omega
        simp -dsimp [h60']
        refine Sat.cond (t := false) (by rfl) ?_
        refine Sat.skip ?_
        simp -dsimp
        exact h60
      · have h60' : (60 : Int) < ops.length := by omega
        simp -dsimp [h60']
        refine Sat.cond (t := true) (by rfl) ?_
        refine Sat.sq ?_
        refine Sat.reg (by kernel_rfl) ?_
        simp -dsimp
        refine w12.useH ?_
        simp -dsimp
        refine Sat.ret ?_
        try simp -dsimp only [thenH_ret, blockA_ret, thenA_ret]
        exact RetQ.ret (r := .bool true) (by rfl) rfl
  rintro T3 h3 n3 ⟨t0, t2, t7, rfl, rfl, hR, h60⟩
  have right := right_ok hR fit
  refine Sat.sq ?_
  refine Sat.reg (by kernel_rfl) ?_
  simp -dsimp [t0, t7, hB2]
  refine (w13 (S := S) (A := A) (J := J) hr2 (by have := right.few; omega) (fun m hm => (right.rate m hm).2) _).onH ?_
  rintro r h4 n4 ⟨hn4, hk4, ⟨hbad, _⟩ | ⟨_, C, hC, hC2, rfl, mv, pl, pv, hc⟩⟩
  · exact absurd right.check hbad
  obtain ⟨htot, hconn⟩ := Right.tot hR
  have ev0 := Ev.new right hconn
  have hcin : CIn h4 n4 C (CS.new S A J ms) := ⟨hC2, C, mv, pl, pv, hc, hC2⟩
  have ho4 : RO h4 1 (.slice Ao ops.length co) (u8s ops) ops.length := ho2.fz fun L b x _ => by rw [hk4 L (hl2 L b x)]; exact x
  have hr4 : RO h4 9 lv (motCells ms) ms.length := hr2.fz fun L b x _ => by rw [hk4 L (hl2 L b x)]; exact x
  have hB4 : h4 (n + 1) = some ⟨[.int .i64 S, .int .i64 A, .int .i64 J], 25, 0, true⟩ := (hk4 _ (by omega)).trans hB2
  have hnear : ∀ m ∈ ms, m.near := ev0.run.ok.near
  clear hc
  simp -dsimp [t0, t2]
  refine Sat.lt fun hlt4 => ?_
  refine Sat.sq ?_
  refine Sat.reg (by kernel_rfl) ?_
  simp -dsimp [t0, t2, t7, hB4]
  refine (w19 hr4 (by have := right.few; omega) hnear _).onH ?_
  rintro r h5 n5 ⟨hn5, hk5, M, hM1, hM2, rfl, pl5, dv5, hm5⟩
  have hrest : (CS.new S A J ms).resting = true := rfl
  have two := hcin.two hlt4 hk5 hM1 hM2 hm5 (fun hx => by rw [hrest] at hx; cases hx)
  have ho5 : RO h5 1 (.slice Ao ops.length co) (u8s ops) ops.length := ho4.fz fun L b x _ => by rw [hk5 L (hlt4 L b x)]; exact x
  generalize CS.new S A J ms = s0 at *
  simp -dsimp [t0, t2]
  refine (w32 two ev0 htot ho5 hby h60).onH ?_
  rintro r h6 n6 rfl
  simp -dsimp
  refine Sat.ret ?_
  try simp -dsimp only [thenH_ret, blockA_ret, thenA_ret]
  exact RetQ.ret (r := .bool true) (by rfl) rfl

end Go.Proofs.Ytoinimkmoojcoaa
/- ControllerEvents returns true for every input, and leaves its arguments as they were. -/
set_option maxRecDepth 100000
set_option linter.unusedSimpArgs false
set_option linter.unusedVariables false
namespace Go.Proofs.Ytoinimkmoojcoaa
open Go Go.Dm Go.ChangeShapes Go.WideShapes Go.ChangeAt Go.RowKit
theorem own : ownKnob Try.prog.godebug = none := by kernel_rfl
theorem laidOut : laidOutB Try.prog = true := by kernel_rfl
theorem lifted8 (os : Os) (started : os.Started) (H : Type) (enc : TypeId × Value → H) :
    ReturnsInHanded {} Try.checked os 8 .any (Rows.controllerEventsSpec.pre6 enc Try.prog Try.f8 Rows.controllerEventsRow.domain false) (Rows.controllerEventsSpec.post enc Try.prog Try.f8 false true false false) := by
  refine returnsInHanded_of_change (C := Try.checked) own started (by kernel_rfl) Try.func8
    (ChangeSpec.witness6 (enc := enc) (C := Try.checked) false ⟨#[], #[.slice none 0 0, .agg #[.int .i64 0, .int .i64 0, .int .i64 0], .slice none 0 0], []⟩ 8 (by kernel_rfl) (by kernel_rfl) (by kernel_rfl) (by kernel_rfl)) ?_
  intro W base args ds gs before hval0 hW hcnd _
  have hval : ∀ (j : Nat) t v, Try.f8.params[j]? = some t → args[j]? = some v → Value.okWide Try.prog W .any base t v := hval0
  have hW' := hW
  obtain ⟨p, q, hA0, hV, rfl, hfz, hnd⟩ := hW
  have hA : DataW.TrodAll enc Try.prog W 0 (fun _ => true) true Try.f8.params.toList args.toList ds p := hA0
  rw [Try.params8] at hA hval
  obtain ⟨v0, vs0, d0, ds0, p0, q0, hargs, rfl, rfl, h0, r0⟩ := trodAll_cons hA
  obtain ⟨v1, vs1, d1, ds1, p1, q1, rfl, rfl, rfl, h1, r1⟩ := trodAll_cons r0
  obtain ⟨v2, vs2, d2, ds2, p2, q2, rfl, rfl, rfl, h2, r2⟩ := trodAll_cons r1
  obtain ⟨rfl, rfl, rfl⟩ := trodAll_nil r2
  obtain rfl : args = #[v0, v1, v2] := by cases args; simp_all
  obtain ⟨rfl, rfl⟩ := trodVars_none hV
  obtain ⟨a0, len0, cap0, rfl⟩ := okWide_slice Try.underlying22 (hval 0 22 v0 rfl rfl)
  obtain ⟨a2, len2, cap2, rfl⟩ := okWide_slice Try.underlying57 (hval 2 57 v2 rfl rfl)
  have agg1 : ∃ cs, v1 = .agg cs := okWide_arr Try.underlying23 (hval 1 23 v1 rfl rfl)
  have lt0 : ∀ x ∈ p0, x.block < W.heap.size := by obtain ⟨m, hm⟩ := h0; exact DataW.trod_lt m _ _ _ hm
  have lt1 : ∀ x ∈ p1, x.block < W.heap.size := by obtain ⟨m, hm⟩ := h1; exact DataW.trod_lt m _ _ _ hm
  have lt2 : ∀ x ∈ p2, x.block < W.heap.size := by obtain ⟨m, hm⟩ := h2; exact DataW.trod_lt m _ _ _ hm
  clear hA0 hval0
  obtain ⟨ms, lv, g1, m1, n1, E1, _, _, _, q0, ro1, fit, few⟩ := mots_in (Ent.nil W) h0
  obtain ⟨bs, ov, g2, m2, n2, E2, le2, _, hs2, q2, ro2, hby, _⟩ := bytes_in E1 h2
  obtain ⟨S, A, J, rfl, _, _, _⟩ := lim_in agg1 h1
  have ro1' := ro1.same E1 hs2
  refine ((w8 ro1' few fit ro2 hby n2).law E2 ⟨_, Try.func8, by kernel_rfl, by kernel_rfl⟩ (args := [.slice a0 len0 cap0, limV S A J, .slice a2 len2 cap2]) (.cons (q0.mono le2) (.cons (VR3.refl rfl) (.cons q2 .nil)))).mono fun e W' ⟨he, bel⟩ => ?_
  subst he
  exact ⟨_, rfl, _, _, _, [], _, [], hW', trodAll_mk1 (shut_bool Try.underlying4 _), (trodAll_cons_mk (Below.trod laidOut (by kernel_rfl) (of_decide_eq_true (by kernel_rfl)) h0 bel lt0) (trodAll_cons_mk (Below.trod laidOut (by kernel_rfl) (of_decide_eq_true (by kernel_rfl)) h1 bel lt1) (trodAll_cons_mk (Below.trod laidOut (by kernel_rfl) (of_decide_eq_true (by kernel_rfl)) h2 bel lt2) trodAll_mk0))), rfl, bel.frame _, fun h => by cases h⟩
theorem over8 : Rows.controllerEventsRow.holds Try.pinned (OpenSpec.ofChange Rows.controllerEventsSpec) :=
  OpenClaim.holds_of_wide 8 Try.f8 rfl rfl rfl rfl rfl rfl rfl ⟨rfl, rfl, rfl, rfl, rfl⟩ rfl rfl rfl rfl rfl (by kernel_rfl) Try.func8 (by kernel_rfl)
    (of_decide_eq_true (by kernel_rfl)) (by unfold Func.isWrapper; first | (rw [if_pos (by decide +kernel)]; kernel_rfl) | (rw [if_neg (by decide +kernel)]; exact ⟨rfl, rfl⟩))
    (fun os started H enc _ => lifted8 os started H enc)
/-- THE STATEMENT. -/
theorem controllerEvents : Rows.ControllerEventsSaid := over8
#print axioms controllerEvents
end Go.Proofs.Ytoinimkmoojcoaa
