/- TopRestart returns true for every input, and leaves its arguments as they were. -/
import Derived.Test.YtoinimkmoojcoaaG10
import Derived.Test.YtoinimkmoojcoaaG7
import Derived.Test.YtoinimkmoojcoaaRows
import Derived.ShutString
set_option maxRecDepth 100000
set_option maxHeartbeats 4000000
set_option linter.unusedSimpArgs false
set_option linter.unusedVariables false
namespace Go.Proofs.Ytoinimkmoojcoaa
open Go Go.Dm
attribute [local simp ↓] RunS_nil RunS_op RunS_guard RunT_nil RunT_op RunT_guard opS_call opD_call opS_move opD_move opS_assign opD_assign opS_pick opD_pick opS_nilCheck opD_nilCheck opS_fieldAddr opD_fieldAddr opS_indexAddr opD_indexAddr opS_load opD_load opS_store opD_store opS_alloc opD_alloc opS_box opD_box opS_build opD_build opS_buildSlice opD_buildSlice opS_field opD_field opS_extract opD_extract opS_makeFunc opD_makeFunc opS_slice opD_slice opS_binOp opD_binOp opS_unOp opD_unOp opS_convert opD_convert opS_index opD_index opS_len opD_len opS_append opD_append opS_max opD_max opS_min opD_min obind_some obind_none thenH_normal thenH_ret thenH_exit blockA_normal blockA_ret blockA_exit thenA_normal thenA_ret thenA_exit dstAt_mk dstL_zero dstL_succ
attribute [local simp] undef wantG_bool wantG_undef findO_some calleeS find putA ev closed3 closed2 closed1 closed0 pickA binF unF convF mxF eqNilA fastBin fastUn fastConv intBin argEnv resultsA resultsL resultA notTuple allocs eff
  loadO storeO allocO boxO sliceO indexO indexAddrA loadA storeA newA isAggT nilCheckA lenA evAll evParts aadd gen upd_at upd_upd Value.cells mxV Pairs apart readsS labOf putAt fieldA partA extractA makeFuncA evOpt boundOf sliceA Nat.add_assoc
attribute [local simp] bu107_z bu107_0_1 bu25_0_1_2 bu36_z bu36_0_1 bu36_0_1_2 bu36_0 bu38_z bu38_0_1_2_3_4 bu38_0_1_3 bu38_0_1_3_4 bu38_1_2 bu38_1_2_3 bu52_0_1_10 bu81_0_1 bs22_0_z bs22_1_0 bs22_2_0_1 bs39_1_0 bs39_7_0_1_2_3_4_5_6 bs95_4_0_1_2_3
attribute [local simp ↓] eql107 neq107 eql36 neq36 eql38 neq38 eql25 neq25
attribute [local simp] fa25_0 fa25_1 fa25_2 fa36_0 fa36_1 fa36_2 fa38_0 fa38_1 fa38_2 fa38_3 fa38_4 fa107_0 fa107_1 fa81_0 fa81_1 fa81_2 fa81_3 fa81_4 fa81_5 fa81_6 fa81_7 fa81_8 fa81_9 fa81_10 fa52_0 fa52_1 fa52_2 fa52_3 fa52_4 fa52_5 fa52_6 fa52_7 fa52_8 fa52_9 fa52_10 fa52_11 fa52_12
attribute [local simp] c22 c39 c29 z22 z39 c25 c38 c2 c3 c4 c36 c107 c30 z25 z38 z2 z3 z4 z36 z107 b38 b25 b107 h38 h25 h36 h107 g38 g25 g36 g107 Try.underlying25 Try.underlying38 Try.underlying2 Try.underlying3 Try.underlying4 Try.underlying36 Try.underlying22 Try.underlying39 Try.underlying29 Try.underlying81 Try.underlying107 Try.underlying30
attribute [local simp] mx mn
attribute [local simp] fa66_0 fa66_1 fa66_2 fa68_0 fa68_1 fa68_2
attribute [local simp] c66 z66 b66 h66 g66 Try.underlying66 c68 z68 Try.underlying68 c63 c64 c65 c103 z103 z63 Try.underlying63 Try.underlying64 Try.underlying65 Try.underlying103 Try.underlying69 Try.underlying5 c5
def at10 (ms : List Mot) (S A J : Int) (lv : Value) (ticks safe : Int) (T : TEnv) (h' : Heap) (n' : Nat) : Prop :=
  find T 1 = some (.int .u8 ticks) ∧ find T 2 = some (.int .u16 safe) ∧ find T 7 = some lv ∧ RO h' 9 lv (motCells ms) ms.length ∧ ∃ L8, find T 8 = some (.pointer (some ⟨L8, 0, none⟩)) ∧ L8 < n' ∧ h' L8 = some ⟨[.int .i64 S, .int .i64 A, .int .i64 J], 25, 0, false⟩
abbrev u10_13 : List (Nat × Nat) := [(4, 5), (20, 24), (22, 24), (23, 24)]
abbrev u10_19 : List (Nat × Nat) := []
theorem w37r {h : Heap} {lv : Value} {ms : List Mot} (hr : RO h 9 lv (motCells ms) ms.length) (p : P3) : Reads 37 [lv, p.v] h (fromM p ms).v := by
  obtain ⟨F, f1, f2⟩ := hr.agree
  exact ⟨F, f1, fun h2 n2 hh => w37 (f2 h2 hh) p n2⟩
theorem w36r {h : Heap} {lv : Value} {ms : List Mot} (hr : RO h 9 lv (motCells ms) ms.length) (few : ms.length ≤ 1000000000000) (p : P3) : Reads 36 [p.v, lv] h (.bool (linkM p ms)) := by
  obtain ⟨F, f1, f2⟩ := hr.agree
  exact ⟨F, f1, fun h2 n2 hh => w36 (f2 h2 hh) few p n2⟩
theorem w39r {h : Heap} {av bv : Value} {a b : List Mot} (ha : RO h 9 av (motCells a) a.length) (hb : RO h 9 bv (motCells b) b.length) (few : a.length ≤ 1000000000000) : Reads 39 [av, bv] h (.bool (decide (a = b))) := by
  obtain ⟨F1, f1, g1⟩ := ha.agree
  obtain ⟨F2, f2, g2⟩ := hb.agree
  refine ⟨F1 ++ F2, ?_, fun h2 n2 hh => w39 (g1 h2 fun L hL => hh L (by simp [hL])) (g2 h2 fun L hL => hh L (by simp [hL])) few n2⟩
  intro L hL
  rcases List.mem_append.1 hL with h | h
  · exact f1 L h
  · exact f2 L h
theorem Spec.bound {P : Program} {g : FuncId} {args : List Value} {h : Heap} {n : Nat} {Q : Value → Heap → Nat → Prop} (hs : Dm.Spec P g args h n Q) : Dm.Spec P g args h n fun r h' n' => Q r h' n' ∧ ∀ L b, h' L = some b → L < n' :=
  ⟨fun m w args' ha H hd => (hs.run m w args' ha H hd).mono fun e w' ⟨r, r', h', n', m', e1, h2, h3, h4, h5, hq⟩ => ⟨r, r', h', n', m', e1, h2, h3, h4, h5, hq, fun L b hL => h3.lt h4 hL⟩⟩
theorem wrap8 {x : Int} (h1 : 0 ≤ x) (h2 : x ≤ 255) : IntKind.u8.wrap x = x := by
  simp only [IntKind.wrap, IntKind.bits, IntKind.signed]; simp; omega
theorem w10 {h : Heap} {x y z S A J ticks safe : Int} {wv : Value} {ws : List Way} (hx : i16 x ∧ i16 y ∧ i16 z) (hw : RO h 4 wv (wayCells ws) ws.length) (hf : ∀ w ∈ ws, w.Fit) (few : ws.length ≤ 9223372036854775807) (htk : 0 ≤ ticks ∧ ticks ≤ 255) (hsf : 0 ≤ safe ∧ safe ≤ 65535) (n : Nat) :
    Dm.Spec Try.prog 10 [tripV x y z wv S A J, .int .u8 ticks, .int .u16 safe] h n fun r _ _ => r = .bool true := by
  refine Spec.body Try.func10 rfl (by kernel_rfl) Try.ntmps10 (by rw [Try.results10]) (Nat.le_of_ble_eq_true rfl) ?_
  refine Sat.lt fun hlt => ?_
  obtain ⟨Aw, cw, rfl⟩ := hw.len
  refine Sat.sq ?_
  refine Sat.reg (by kernel_rfl) ?_
  simp -dsimp
  have hw1 : RO (upd h n ⟨[.int .i16 x, .int .i16 y, .int .i16 z, .slice Aw ws.length cw, .int .i64 S, .int .i64 A, .int .i64 J], 68, 0, true⟩) 4 (.slice Aw ws.length cw) (wayCells ws) ws.length := hw.fz fun L b x _ => by rw [upd_at, if_neg (by have := hlt L b x; omega)]; exact x
  have hB1 : upd h n ⟨[.int .i16 x, .int .i16 y, .int .i16 z, .slice Aw ws.length cw, .int .i64 S, .int .i64 A, .int .i64 J], 68, 0, true⟩ n = some ⟨[.int .i16 x, .int .i16 y, .int .i16 z, .slice Aw ws.length cw, .int .i64 S, .int .i64 A, .int .i64 J], 68, 0, true⟩ := by rw [upd_at, if_pos rfl]
  generalize upd h n _ = g1 at *
  have hp0 : inP ⟨x, y, z⟩ 0 := by unfold i16 at hx; unfold inP; simp; omega
  refine Sat.sq ?_
  refine Sat.reg (by kernel_rfl) ?_
  simp -dsimp [hB1]
  refine (Spec.bound (w34 hx hw1 hf few _)).onH ?_
  rintro r h2 n2 ⟨⟨hn2, hs2, ⟨hbad, rfl⟩ | ⟨hok, lv, rfl, hro⟩⟩, hlt2⟩
  · simp -dsimp
    refine Sat.sq ?_
    refine Sat.sq ?_
    refine Sat.reg (by kernel_rfl) ?_
    simp -dsimp
    refine w35.useH ?_
    simp -dsimp
    refine Sat.cond (t := true) (by rfl) ?_
    refine Sat.sq ?_
    refine Sat.reg (by kernel_rfl) ?_
    simp -dsimp
    refine w35.useH ?_
    simp -dsimp
    refine Sat.ret ?_
    try simp -dsimp only [thenH_ret, blockA_ret, thenA_ret]
    exact RetQ.ret (r := .bool true) (by rfl) rfl
  obtain ⟨hq, hlk, hsm, hlen, hck, hrt⟩ := trip_ok hok hp0 hf
  obtain ⟨Al, cl, rfl⟩ := hro.len
  generalize hms : motsT ws ⟨x, y, z⟩ 0 = ms at *
  simp -dsimp
  by_cases h1k : safe < 1000
  · refine Sat.sq ?_
    refine Sat.sq ?_
    refine Sat.reg (by kernel_rfl) ?_
    simp -dsimp
    refine w35.useH ?_
    simp -dsimp [h1k]
    refine Sat.cond (t := true) (by rfl) ?_
    refine Sat.sq ?_
    refine Sat.reg (by kernel_rfl) ?_
    simp -dsimp
    refine w35.useH ?_
    simp -dsimp
    refine Sat.ret ?_
    try simp -dsimp only [thenH_ret, blockA_ret, thenA_ret]
    exact RetQ.ret (r := .bool true) (by rfl) rfl
  refine Sat.sq ?_
  refine Sat.sq ?_
  refine Sat.reg (by kernel_rfl) ?_
  simp -dsimp
  refine w35.useH ?_
  simp -dsimp [h1k]
  refine Sat.cond (t := false) (by rfl) ?_
  refine Sat.skip ?_
  simp -dsimp
  refine Sat.freeze n2 (b := ⟨[.int .i64 S, .int .i64 A, .int .i64 J], 25, 0, true⟩) (by rw [upd_at, if_pos rfl]) ?_
  rw [upd_upd]
  dsimp only
  have hro3 : RO (upd h2 n2 ⟨[.int .i64 S, .int .i64 A, .int .i64 J], 25, 0, false⟩) 9 (.slice Al ms.length cl) (motCells ms) ms.length := hro.fz fun L b x _ => by rw [upd_at, if_neg (by have := hlt2 L b x; omega)]; exact x
  have hB3 : upd h2 n2 ⟨[.int .i64 S, .int .i64 A, .int .i64 J], 25, 0, false⟩ n2 = some ⟨[.int .i64 S, .int .i64 A, .int .i64 J], 25, 0, false⟩ := by rw [upd_at, if_pos rfl]
  have hlt3 := lt_fresh (b := ⟨[.int .i64 S, .int .i64 A, .int .i64 J], 25, 0, false⟩) hlt2
  generalize upd h2 n2 ⟨[.int .i64 S, .int .i64 A, .int .i64 J], 25, 0, false⟩ = h3 at *
  refine Sat.sq ?_
  refine Sat.reg (by kernel_rfl) ?_
  simp -dsimp [hB3]
  refine (w13 (S := S) (A := A) (J := J) hro3 (by omega) (fun m hm => (hrt m hm).2) _).onH ?_
  rintro r h4 n4 ⟨hn4, hk4, ⟨hbad, _⟩ | ⟨_, C, hC, hC2, rfl, mv, pl, pv, hc⟩⟩
  · exact absurd hck hbad
  obtain ⟨hsolo, hbud⟩ := CS.Solo.new hck hrt
  have hms0 : (CS.new S A J ms).ms = ms := rfl
  have hab : CAb n4 h4 n4 C (CS.new S A J ms) ∨ True := .inr trivial
  have hcin : CIn h4 n4 C (CS.new S A J ms) := ⟨hC2, C, mv, pl, pv, hc, hC2⟩
  have hro4 : RO h4 9 (.slice Al ms.length cl) (motCells ms) ms.length := hro3.fz fun L b x _ => by rw [hk4 L (hlt3 L b x)]; exact x
  have hB4 : h4 n2 = some ⟨[.int .i64 S, .int .i64 A, .int .i64 J], 25, 0, false⟩ := (hk4 _ (by omega)).trans hB3
  clear hc
  generalize CS.new S A J ms = s0 at *
  simp -dsimp
  refine Sat.sq ?_
  refine Sat.sq ?_
  refine Sat.reg (by kernel_rfl) ?_
  simp -dsimp
  refine Sat.cond (t := false) (by rfl) ?_
  refine Sat.skip ?_
  simp -dsimp
  refine Sat.join (fun T h' n' => find T 2 = some (.int .u16 safe) ∧ find T 7 = some (.slice Al ms.length cl) ∧ find T 8 = some (.pointer (some ⟨n2, 0, none⟩)) ∧ find T 10 = some (pC C) ∧ RO h' 9 (.slice Al ms.length cl) (motCells ms) ms.length ∧ h' n2 = some ⟨[.int .i64 S, .int .i64 A, .int .i64 J], 25, 0, false⟩ ∧ n2 < n' ∧ ∃ s, s.Solo ∧ s.ms = ms ∧ CIn h' n' C s) ?_ ?_
  · refine Sat.sq ?_
    refine Sat.reg (by kernel_rfl) ?_
    simp -dsimp
    refine Sat.block ?_
    refine Sat.loop (ι := Int × CS) (fun i T h' n' => find T 2 = some (.int .u16 safe) ∧ find T 7 = some (.slice Al ms.length cl) ∧ find T 8 = some (.pointer (some ⟨n2, 0, none⟩)) ∧ find T 10 = some (pC C) ∧ find T 45 = some (.int .u8 ticks) ∧ find T 46 = some (.int .u8 i.1) ∧ 0 ≤ i.1 ∧ i.1 ≤ ticks ∧ RO h' 9 (.slice Al ms.length cl) (motCells ms) ms.length ∧ h' n2 = some ⟨[.int .i64 S, .int .i64 A, .int .i64 J], 25, 0, false⟩ ∧ n2 < n' ∧ i.2.Solo ∧ i.2.ms = ms ∧ CIn h' n' C i.2) (fun i => (ticks - i.1).toNat) (0, s0) ?_ ?_
    · exact ⟨rfl, rfl, rfl, rfl, rfl, rfl, by simp, by simpa using htk.1, hro4, hB4, by omega, hsolo, hms0, hcin⟩
    rintro ⟨i, s⟩ T h' n' ⟨t2, t7, t8, t10, t45, t46, i0, i1, hro, hB, hn, hs, hm, hc⟩
    simp only at t46 i0 i1 hs hm hc
    refine Sat.sq ?_
    refine Sat.reg (by kernel_rfl) ?_
    simp -dsimp [t45, t46]
    refine Sat.sq ?_
    refine Sat.ite rfl (fun hq => ?_) (fun hq => ?_)
    rotate_left
    · refine Sat.exit ?_
      simp -dsimp
      exact ⟨t2, t7, t8, t10, hro, hB, hn, s, hs, hm, hc⟩
    have hq : i < ticks := by simpa using hq
    refine Sat.skip ?_
    simp -dsimp
    refine Sat.sq ?_
    refine Sat.block ?_
    refine Sat.reg (by kernel_rfl) ?_
    simp -dsimp [t10]
    refine (hc.tick hs.run (by have := hs.few; omega)).onH ?_
    rintro r h2 n2' ⟨rfl, hc2, hn2', hf2⟩
    have W : IntKind.u8.wrap (i + 1) = i + 1 := wrap8 (by omega) (by omega)
    simp -dsimp
    refine Sat.reg (by kernel_rfl) ?_
    simp -dsimp [t46, W]
    have hst : s.tick.Solo := by
      by_cases hi : s.index < s.ms.length
      · exact (hs.tick hi).1
      · have hie : s.index = s.ms.length := by have := hs.run.ok.idx.2; omega
        rw [show s.tick = s by simp [CS.tick, CS.moves, hie]]; exact hs
    exact ⟨i + 1, ⟨by simp [t2, find], by simp [t7, find], by simp [t8, find], by simp [t10, find], by simp [t45, find], rfl, by omega, by omega, hro.fz hf2, hf2 _ _ hB rfl, by omega, s.tick, hst, (tick_eq s).1.trans hm, hc2⟩, by omega⟩
  clear hcin hro4 hB4 hro3 hB3 hlt3 hk4 hlt2 hs2 hlt hw hw1 hB1 hro
  rintro T h5 n5 ⟨t2, t7, t8, t10, hro5, hB5, hn5, s, hs, hm, hC5, Lp, mv, pl, pv, hcr, hLp⟩
  have hpath := hs.path
  have hbox := pos_box hs.run.ok (by rw [hm]; exact hsm)
  have hidx := hs.run.ok.idx
  rw [hm] at hidx
  obtain ⟨l1, l2⟩ := brk_linked hpath hs.run.ok hs.free.2
  rw [hm] at l1 l2
  refine Sat.lt fun hlt5 => ?_
  refine Sat.sq ?_
  refine Sat.reg (by kernel_rfl) ?_
  simp -dsimp [t10]
  refine (w31 hcr hs.run.ok _).useH ?_
  simp -dsimp [t10]
  refine (w24 hcr _).useH ?_
  simp -dsimp
  refine Sat.freeze n5 (b := ⟨[.int .i64 s.pos.x, .int .i64 s.pos.y, .int .i64 s.pos.z], 36, 0, true⟩) (by rw [upd_at, if_pos rfl]) ?_
  rw [upd_upd]
  dsimp only
  have hP6 : upd h5 n5 ⟨[.int .i64 s.pos.x, .int .i64 s.pos.y, .int .i64 s.pos.z], 36, 0, false⟩ n5 = some ⟨[.int .i64 s.pos.x, .int .i64 s.pos.y, .int .i64 s.pos.z], 36, 0, false⟩ := by rw [upd_at, if_pos rfl]
  have hf6 : Fz h5 (upd h5 n5 ⟨[.int .i64 s.pos.x, .int .i64 s.pos.y, .int .i64 s.pos.z], 36, 0, false⟩) := fun L b x _ => by rw [upd_at, if_neg (by have := hlt5 L b x; omega)]; exact x
  have hc6 : CIn (upd h5 n5 ⟨[.int .i64 s.pos.x, .int .i64 s.pos.y, .int .i64 s.pos.z], 36, 0, false⟩) (n5 + 1) C s := CIn.up ⟨hC5, Lp, mv, pl, pv, hcr, hLp⟩ hlt5 (fun L hL => by rw [upd_at, if_neg (by omega)]) (by omega)
  have hro6 := hro5.fz hf6
  have hB6 := hf6 _ _ hB5 rfl
  generalize upd h5 n5 ⟨[.int .i64 s.pos.x, .int .i64 s.pos.y, .int .i64 s.pos.z], 36, 0, false⟩ = h6 at *
  refine Sat.sq ?_
  refine Sat.reg (by kernel_rfl) ?_
  simp -dsimp [t10]
  refine (hc6.brk hs.run.ok (by have := hs.few; omega)).onH ?_
  rintro r h7 n7 ⟨rfl, hc7, hn7, hf7⟩
  have hro7 := hro6.fz hf7
  have hB7 := hf7 _ _ hB6 rfl
  have hP7 := hf7 _ _ hP6 rfl
  have hbk := brk_eq s
  have hrunB := hs.run.brk
  have hposB : s.brk.pos = s.pos := by unfold CS.pos CS.cur; rw [hbk.1, hbk.2.2.2.2.1, hbk.2.2.2.2.2.1]
  have hfewB : s.brk.pieces.length ≤ 20001 := by have := hs.few; have := hbk.2.2.2.2.2.2.2; omega
  have hbroken : s.brk.broken = true := hbk.2.2.2.2.2.2.1
  generalize s.brk = sB at *
  generalize hpp : s.pos = pp at *
  simp -dsimp
  obtain ⟨hC7, Lp7, mv7, pl7, pv7, hcr7, hL7⟩ := hc7
  refine Sat.lt fun hlt7 => ?_
  have hdl : sB.done.length ≤ 1000000000000 := by
    unfold CS.done
    rw [List.length_append]
    split <;> simp <;> omega
  obtain ⟨F1, _, hF1⟩ := hcr7.reads (g := 22) fun h2 n2 hc => w22still hc (.inl hbroken) n2
  obtain ⟨F2, _, hF2⟩ := hcr7.reads (g := 31) fun h2 n2 hc => w31 hc hrunB.ok n2
  rw [hposB] at hF2
  obtain ⟨F3, _, hF3⟩ := w37r hro7 pp
  obtain ⟨Ag, cg, eg⟩ := gcv_val n7 9 sB.done.length
  obtain ⟨rd8, hs8, hlt8⟩ := gc_ro (e := 38) hlt7 (motCells_length sB.done)
  have hd8 := w20 hcr7 hrunB.ok (by omega) n7 false
  generalize hg8 : applyU h7 (gcu n7 38 (motCells sB.done) sB.done.length false) = h8 at *
  rw [eg] at rd8 hd8
  obtain ⟨hcr8, _⟩ := hcr7.same (n' := n7 + 1) hlt7 hs8 (by omega)
  have hro8 : RO h8 9 (.slice Al ms.length cl) (motCells ms) ms.length := hro7.fz fun L b x _ => by rw [hs8 L (hlt7 L b x)]; exact x
  have hP8 := (hs8 n5 (by omega)).trans hP7
  have hB8 := (hs8 n2 (by omega)).trans hB7
  obtain ⟨F4, _, hF4⟩ := w36r rd8 hdl (fromM pp ms)
  obtain ⟨F5, _, hF5⟩ := w37r hro8 pp
  obtain ⟨Ah, ch, eh⟩ := gcv_val (n7 + 1) 9 sB.done.length
  obtain ⟨rd9, hs9, hlt9⟩ := gc_ro (e := 38) hlt8 (motCells_length sB.done)
  have hd9 := w20 hcr8 hrunB.ok (by omega) (n7 + 1) false
  generalize hg9 : applyU h8 (gcu (n7 + 1) 38 (motCells sB.done) sB.done.length false) = h9 at *
  rw [eh] at rd9 hd9
  obtain ⟨F6, _, hF6⟩ := w38r rd9 hdl (fromM pp ms)
  rw [l2] at hF6
  rw [l1.linkM] at hF4
  have hro9 : RO h9 9 (.slice Al ms.length cl) (motCells ms) ms.length := hro8.fz fun L b x _ => by rw [hs9 L (hlt8 L b x)]; exact x
  have hP9 := (hs9 n5 (by omega)).trans hP8
  have hB9 := (hs9 n2 (by omega)).trans hB8
  refine Sat.sq ?_
  refine Sat.sq ?_
  refine Sat.drw u10_13 mixed (by kernel_rfl) (by kernel_rfl) (by kernel_rfl) (by kernel_rfl) ?_
  simp -dsimp [t10]
  refine callD.reads _ F1 hF1 ?_
  simp -dsimp [t10]
  refine callD.reads _ F2 hF2 ?_
  simp -dsimp [t7, hP7]
  refine callD.reads _ F3 hF3 ?_
  simp -dsimp [t10]
  refine callD.heavy _ (gcu n7 38 (motCells sB.done) sB.done.length false) (n7 + 1) (Nat.le_succ n7) (gcu_lt _ _ _ _ _) (by rw [hg8]; exact hd8) ?_
  rw [hg8]
  simp -dsimp
  refine callD.reads _ F4 hF4 ?_
  simp -dsimp [t7, hP8]
  refine callD.reads _ F5 hF5 ?_
  simp -dsimp [t10]
  refine callD.heavy _ (gcu (n7 + 1) 38 (motCells sB.done) sB.done.length false) (n7 + 1 + 1) (Nat.le_succ _) (gcu_lt _ _ _ _ _) (by rw [hg9]; exact hd9) ?_
  rw [hg9]
  simp -dsimp
  refine callD.reads _ F6 hF6 ?_
  simp -dsimp [hP9]
  refine ⟨fun a b hab => ?_, ?_⟩
  · unfold gcu at hab
    split at hab
    · cases hab
    · simp only [List.mem_singleton, Prod.mk.injEq] at hab; omega
  refine Sat.cond (t := false) (by rfl) ?_
  refine Sat.skip ?_
  simp -dsimp
  have Ws : IntKind.i64.wrap safe = safe := wrap_in (by omega) (by omega)
  refine Sat.sq ?_
  refine Sat.reg (by kernel_rfl) ?_
  simp -dsimp [t2, t7, hP9, Ws]
  refine (Spec.bound (w26 hro9 (by omega) s.index pp safe _)).onH ?_
  rintro r h10 n10 ⟨⟨hn10, hk10, sv, rfl, hrs⟩, hlt10⟩
  obtain ⟨As, cs, rfl⟩ := hrs.len
  have hro10 : RO h10 9 (.slice Al ms.length cl) (motCells ms) ms.length := hro9.fz fun L b x _ => by rw [hk10 L (hlt9 L b x)]; exact x
  have hP10 := (hk10 n5 (by omega)).trans hP9
  have hB10 := (hk10 n2 (by omega)).trans hB9
  rcases rest_ok (S := S) (A := A) (J := J) hq hsm hlen hlk hidx.1 hidx.2 hbox ⟨by omega, hsf.2⟩ with ⟨hne, hnil⟩ | ⟨h0, front, hrest, hfl, hfront, hlkr, hckr, hrtr, hcost⟩
  · rw [hnil] at hrs
    generalize (restM ms s.index pp safe).2 = er at *
    rw [hnil]
    simp -dsimp
    refine Sat.sq ?_
    refine Sat.sq ?_
    refine Sat.reg (by kernel_rfl) ?_
    simp -dsimp
    refine Sat.ite rfl (fun hz => ?_) (fun hz => absurd (by simpa using hz) hne)
    refine Sat.sq ?_
    refine Sat.reg (by kernel_rfl) ?_
    simp -dsimp
    refine Sat.ret ?_
    try simp -dsimp only [thenH_ret, blockA_ret, thenA_ret]
    exact RetQ.ret (r := .bool true) (by rfl) rfl
  rw [h0]
  rw [hrest] at hrs ⊢
  have hrl : ((front ++ ms.drop s.index.toNat).length : Int) = front.length + (ms.length - s.index) := by simp; omega
  have hk5 : (front ++ ms.drop s.index.toNat).length ≤ 10 := by simp; omega
  obtain ⟨s1, hs1, hr1⟩ := hrs.drop (i := (front.length : Int)) (by omega) (by omega)
  obtain ⟨s2, hs2', hr2⟩ := hro10.drop (i := s.index) hidx.1 hidx.2
  rw [show ((front.length : Int).toNat) = front.length by omega, List.drop_left] at hr1
  obtain ⟨F7, _, hF7⟩ := w39r hr1 hr2 (by simp; omega)
  obtain ⟨F8, _, hF8⟩ := w36r hrs (by omega) pp
  rw [hlkr.linkM] at hF8
  rw [decide_eq_true rfl] at hF7
  obtain ⟨A1, c1, rfl⟩ := hr1.len
  obtain ⟨A2, c2, rfl⟩ := hr2.len
  obtain ⟨s3, hs3, hr3⟩ := hrs.upto (i := (front.length : Int)) (by omega) (by omega)
  rw [show ((front.length : Int).toNat) = front.length by omega, List.take_left'] at hr3
  rotate_left
  · rfl
  obtain ⟨A3, c3, rfl⟩ := hr3.len
  generalize hrr : front ++ ms.drop s.index.toNat = rest at *
  generalize (ms.drop s.index.toNat).length = dl at *
  simp -dsimp
  refine Sat.sq ?_
  refine Sat.sq ?_
  refine Sat.reg (by kernel_rfl) ?_
  simp -dsimp
  refine Sat.cond (t := false) (by rfl) ?_
  refine Sat.skip ?_
  simp -dsimp
  have Wa : IntKind.i64.wrap ((ms.length : Int) - s.index) = (ms.length : Int) - s.index := wrap_in (by omega) (by omega)
  have Wb : IntKind.i64.wrap ((rest.length : Int) - ((ms.length : Int) - s.index)) = front.length := by rw [wrap_in (by omega) (by omega)]; omega
  refine Sat.sq ?_
  refine Sat.reg (by kernel_rfl) ?_
  simp -dsimp [t7, Wa, Wb]
  have hf0 : ¬ (front.length : Int) < 0 := by omega
  have hf4 : ¬ (4 : Int) < front.length := by omega
  have hf4' : ¬ 4 < front.length := by omega
  refine Sat.sq ?_
  refine Sat.sq ?_
  refine Sat.drw u10_19 mixed (by kernel_rfl) (by kernel_rfl) (by kernel_rfl) (by kernel_rfl) ?_
  simp -dsimp [t7, hf0, hf4, hf4', -sliceA, hs1, hs2']
  refine callD.reads _ F7 hF7 ?_
  simp -dsimp [hP10]
  refine callD.reads _ F8 hF8 ?_
  simp -dsimp
  refine Sat.cond (t := false) (by rfl) ?_
  refine Sat.skip ?_
  simp -dsimp
  refine Sat.join (fun T h' n' => find T 8 = some (.pointer (some ⟨n2, 0, none⟩)) ∧ find T 14 = some (.slice As rest.length cs) ∧ n10 ≤ n' ∧ ∀ L, L < n10 → h' L = h10 L) ?_ ?_
  · refine Sat.sq ?_
    refine Sat.reg (by kernel_rfl) ?_
    simp -dsimp [-sliceA, hs3]
    refine Sat.block ?_
    refine Sat.loop (ι := Nat) (fun i T h' n' => find T 2 = some (.int .u16 safe) ∧ find T 8 = some (.pointer (some ⟨n2, 0, none⟩)) ∧ find T 14 = some (.slice As rest.length cs) ∧ find T 129 = some (.slice A3 front.length c3) ∧ find T 130 = some (.int .i64 front.length) ∧ find T 131 = some (.int .i64 i) ∧ i ≤ front.length ∧ n10 ≤ n' ∧ ∀ L, L < n10 → h' L = h10 L) (fun i => front.length - i) 0 ?_ ?_
    · exact ⟨by simp [t2, find], by simp [t8, find], rfl, rfl, rfl, rfl, by simp, Nat.le_refl _, fun _ _ => rfl⟩
    clear t7 t10
    rintro i T h' n' ⟨t2, t8, t14, t129, t130, t131, hi, hn, hfr⟩
    refine Sat.sq ?_
    refine Sat.reg (by kernel_rfl) ?_
    simp -dsimp [t130, t131]
    refine Sat.sq ?_
    refine Sat.ite rfl (fun hq => ?_) (fun hq => ?_)
    rotate_left
    · refine Sat.exit ?_
      simp -dsimp
      exact ⟨t8, t14, hn, hfr⟩
    have hq : i < front.length := by simpa using hq
    have hr3' : RO h' 9 (.slice A3 front.length c3) (motCells front) front.length := hr3.fz fun L b x _ => by rw [hfr L (hlt10 L b x)]; exact x
    obtain ⟨B, o, sp, bb, hB, hbo, am⟩ := hr3'.mot (i := (i : Int)) (by omega) (by omega)
    rw [show ((i : Int).toNat) = i by omega] at am
    have hF := hfront _ (by rw [getElem!_pos front i hq]; exact List.getElem_mem _ : front[i]! ∈ front)
    unfold FrontOk at hF
    generalize front[i]! = m at *
    refine Sat.skip ?_
    simp -dsimp
    refine Sat.join (fun T h' n' => find T 2 = some (.int .u16 safe) ∧ find T 8 = some (.pointer (some ⟨n2, 0, none⟩)) ∧ find T 14 = some (.slice As rest.length cs) ∧ find T 129 = some (.slice A3 front.length c3) ∧ find T 130 = some (.int .i64 front.length) ∧ find T 131 = some (.int .i64 i) ∧ n10 ≤ n' ∧ ∀ L, L < n10 → h' L = h10 L) ?_ ?_
    rotate_left
    · rintro T2 h2 n2 ⟨t2, t8, t14, t129, t130, t131, hn, hfr⟩
      have W : IntKind.i64.wrap ((i : Int) + 1) = (i : Int) + 1 := wrap_in (by omega) (by omega)
      refine Sat.reg (by kernel_rfl) ?_
      simp -dsimp [t131, W]
      exact ⟨i + 1, ⟨by simp [t2, find], by simp [t8, find], by simp [t14, find], by simp [t129, find], by simp [t130, find], by simp, by omega, hn, hfr⟩, by omega⟩
    refine Sat.block ?_
    refine Sat.sq ?_
    refine Sat.reg (by kernel_rfl) ?_
    simp -dsimp [t129, t131, -indexAddrA, am.idx, ↓am.l38, hB]
    have b0 : upd h' n' ⟨m.cells, 38, 0, true⟩ n' = some ⟨m.cells, 38, 0, true⟩ := by rw [upd_at, if_pos rfl]
    have hfr8 : ∀ L, L < n10 → upd h' n' ⟨m.cells, 38, 0, true⟩ L = h10 L := fun L hL => by rw [upd_at, if_neg (by omega)]; exact hfr L hL
    dsimp only [Mot.cells] at b0 hfr8
    generalize upd h' n' _ = g8 at *
    refine Sat.sq ?_
    refine Sat.reg (by kernel_rfl) ?_
    by_cases hX : m.fx = m.tx
    · by_cases hY : m.fy = m.ty
      · by_cases hR : m.rate = 0
        · have hZ : ¬ m.tz < 1000 := by have := hF.2 hR; omega
          simp -dsimp [b0, hX, hY]
          refine Sat.sq ?_
          refine Sat.reg (by kernel_rfl) ?_
          simp -dsimp [b0, t2, hX, hY, hR, hZ]
          refine Sat.cond (t := false) (by rfl) ?_
          refine Sat.skip ?_
          simp -dsimp
          exact ⟨by simp [t2, find], by simp [t8, find], by simp [t14, find], by simp [t129, find], by simp [t130, find], by simp [t131, find], by omega, hfr8⟩
        · simp -dsimp [b0, hX, hY]
          refine Sat.sq ?_
          refine Sat.reg (by kernel_rfl) ?_
          simp -dsimp [b0, t2, hX, hY, hR]
          refine Sat.cond (t := false) (by rfl) ?_
          refine Sat.skip ?_
          simp -dsimp
          exact ⟨by simp [t2, find], by simp [t8, find], by simp [t14, find], by simp [t129, find], by simp [t130, find], by simp [t131, find], by omega, hfr8⟩
      · obtain ⟨hZ1, hZ2⟩ : m.fz = safe ∧ m.tz = safe := hF.1.resolve_left fun h => hY h.2
        by_cases hR : m.rate = 0
        · have hZ : ¬ m.tz < 1000 := by have := hF.2 hR; omega
          rw [hZ2] at hZ
          simp -dsimp [b0, hX, hY]
          refine Sat.sq ?_
          refine Sat.reg (by kernel_rfl) ?_
          simp -dsimp [b0, t2, hX, hY, hZ1, hZ2, Ws, hR, hZ]
          refine Sat.cond (t := false) (by rfl) ?_
          refine Sat.skip ?_
          simp -dsimp
          exact ⟨by simp [t2, find], by simp [t8, find], by simp [t14, find], by simp [t129, find], by simp [t130, find], by simp [t131, find], by omega, hfr8⟩
        · simp -dsimp [b0, hX, hY]
          refine Sat.sq ?_
          refine Sat.reg (by kernel_rfl) ?_
          simp -dsimp [b0, t2, hX, hY, hZ1, hZ2, Ws, hR]
          refine Sat.cond (t := false) (by rfl) ?_
          refine Sat.skip ?_
          simp -dsimp
          exact ⟨by simp [t2, find], by simp [t8, find], by simp [t14, find], by simp [t129, find], by simp [t130, find], by simp [t131, find], by omega, hfr8⟩
    · obtain ⟨hZ1, hZ2⟩ : m.fz = safe ∧ m.tz = safe := hF.1.resolve_left fun h => hX h.1
      by_cases hR : m.rate = 0
      · have hZ : ¬ m.tz < 1000 := by have := hF.2 hR; omega
        rw [hZ2] at hZ
        simp -dsimp [b0, hX]
        refine Sat.sq ?_
        refine Sat.reg (by kernel_rfl) ?_
        simp -dsimp [b0, t2, hX, hZ1, hZ2, Ws, hR, hZ]
        refine Sat.cond (t := false) (by rfl) ?_
        refine Sat.skip ?_
        simp -dsimp
        exact ⟨by simp [t2, find], by simp [t8, find], by simp [t14, find], by simp [t129, find], by simp [t130, find], by simp [t131, find], by omega, hfr8⟩
      · simp -dsimp [b0, hX]
        refine Sat.sq ?_
        refine Sat.reg (by kernel_rfl) ?_
        simp -dsimp [b0, t2, hX, hZ1, hZ2, Ws, hR]
        refine Sat.cond (t := false) (by rfl) ?_
        refine Sat.skip ?_
        simp -dsimp
        exact ⟨by simp [t2, find], by simp [t8, find], by simp [t14, find], by simp [t129, find], by simp [t130, find], by simp [t131, find], by omega, hfr8⟩
  rintro T h11 n11 ⟨t8, t14, hn11, hfr11⟩
  have hrs11 : RO h11 9 (.slice As rest.length cs) (motCells rest) rest.length := hrs.fz fun L b x _ => by rw [hfr11 L (hlt10 L b x)]; exact x
  have hB11 := (hfr11 n2 (by omega)).trans hB10
  refine Sat.lt fun hlt11 => ?_
  refine Sat.sq ?_
  refine Sat.reg (by kernel_rfl) ?_
  simp -dsimp [t8, t14, hB11]
  refine (Spec.bound (w13 (S := S) (A := A) (J := J) hrs11 (by omega) (fun m hm => (hrtr m hm).2) _)).onH ?_
  rintro r h12 n12 ⟨⟨hn12, hk12, ⟨hbad, _⟩ | ⟨_, D, hD, hD2, rfl, mv12, pl12, pv12, hc12⟩⟩, hlt12⟩
  · exact absurd hckr hbad
  obtain ⟨hsoloD, hbudD⟩ := CS.Solo.new hckr hrtr
  have hcinD : CIn h12 n12 D (CS.new S A J rest) := ⟨hD2, D, mv12, pl12, pv12, hc12, hD2⟩
  have hmsD : (CS.new S A J rest).ms = rest := rfl
  have hrs12 : RO h12 9 (.slice As rest.length cs) (motCells rest) rest.length := hrs11.fz fun L b x _ => by rw [hk12 L (hlt11 L b x)]; exact x
  clear hc12
  generalize CS.new S A J rest = sD at *
  simp -dsimp
  refine Sat.sq ?_
  refine Sat.sq ?_
  refine Sat.reg (by kernel_rfl) ?_
  simp -dsimp
  refine Sat.cond (t := false) (by rfl) ?_
  refine Sat.skip ?_
  simp -dsimp
  refine Sat.sq ?_
  refine Sat.reg (by kernel_rfl) ?_
  simp -dsimp [t14]
  refine (Spec.bound (w40 hcinD hsoloD hmsD (by omega))).onH ?_
  rintro r h13 n13 ⟨⟨rfl, hn13, hf13, sE, hsE, hiE, hmE, hC13, LpE, mvE, plE, pvE, hcE, hLE⟩, hlt13⟩
  have hrs13 := hrs12.fz hf13
  have hdE : sE.done = longM rest := by rw [hsE.end_ (by rw [hmE]; exact hiE), hmE]
  obtain ⟨Ae, ce, ee⟩ := gcv_val n13 9 sE.done.length
  obtain ⟨rdE, hsameE, hltE⟩ := gc_ro (e := 38) hlt13 (motCells_length sE.done)
  have hdoneE := w20 hcE hsE.run.ok (by have := hsE.few; omega) n13 false
  generalize applyU h13 (gcu n13 38 (motCells sE.done) sE.done.length false) = h14 at *
  rw [ee] at rdE hdoneE
  rw [hdE] at rdE hdoneE
  have hrs14 : RO h14 9 (.slice As rest.length cs) (motCells rest) rest.length := hrs13.fz fun L b x _ => by rw [hsameE L (hlt13 L b x)]; exact x
  obtain ⟨Al2, cl2, el2⟩ := gcv_val (n13 + 1) 9 (longM rest).length
  obtain ⟨rdL, hsameL, hltL⟩ := gc_ro (e := 38) hltE (motCells_length (longM rest))
  have hlong := w41 hrs14 (by omega) (n13 + 1) false
  generalize applyU h14 (gcu (n13 + 1) 38 (motCells (longM rest)) (longM rest).length false) = h15 at *
  rw [el2] at rdL hlong
  have hllen := longM_len rest
  have rdE15 : RO h15 9 (.slice Ae (longM rest).length ce) (motCells (longM rest)) (longM rest).length := rdE.fz fun L b x _ => by rw [hsameL L (hltE L b x)]; exact x
  simp -dsimp
  refine hdoneE.useH ?_
  simp -dsimp [t14]
  refine hlong.useH ?_
  simp -dsimp
  refine (w39 rdE15 rdL (by omega) _).useH ?_
  simp -dsimp
  refine Sat.ret ?_
  try simp -dsimp only [thenH_ret, blockA_ret, thenA_ret]
  exact RetQ.ret (r := .bool true) (by rfl) rfl

end Go.Proofs.Ytoinimkmoojcoaa
/- What comes in from outside: a trip. -/
set_option maxRecDepth 100000
set_option linter.unusedSimpArgs false
set_option linter.unusedVariables false
namespace Go.Proofs.Ytoinimkmoojcoaa
open Go Go.Dm Go.ChangeShapes
section
variable {H : Type} {enc : TypeId × Value → H} {w : World} {base : Nat} {spare : Nat → Bool} {held : Bool}
theorem trod_i16 {t : TypeId} (ht : Try.prog.underlying t = some (.int .i16)) {fuel : Nat} {cs : List Value} {x : DataW H × List MemPlace} (h : DataW.trod enc Try.prog w base spare held fuel t cs = some x) : ∃ n, cs = [.int .i16 n] ∧ i16 n := by
  obtain ⟨n, h1, _, h2⟩ := DataW.trod_int ht h
  simp only [Lit.wf, Bool.and_eq_true, decide_eq_true_eq] at h2
  exact ⟨n, h1, h2⟩
theorem trod_way {fuel : Nat} {cs : List Value} {x : DataW H × List MemPlace} (h : DataW.trod enc Try.prog w base spare held fuel 103 cs = some x) : ∃ m : Way, cs = m.cells ∧ m.Fit := by
  obtain ⟨xs, n, _, _, hl, hxl, hx⟩ := DataW.trod_array Try.underlying103 h
  rw [c103] at hl
  simp only [c63] at hx
  have g : ∀ i, i < 4 → ∃ y, xs[i]? = some y := fun i hi => ⟨xs[i], List.getElem?_eq_getElem (by omega)⟩
  obtain ⟨y0, e0⟩ := g 0 (by omega)
  obtain ⟨y1, e1⟩ := g 1 (by omega)
  obtain ⟨y2, e2⟩ := g 2 (by omega)
  obtain ⟨y3, e3⟩ := g 3 (by omega)
  have f0 := hx 0 (by omega)
  have f1 := hx 1 (by omega)
  have f2 := hx 2 (by omega)
  have f3 := hx 3 (by omega)
  rw [e0] at f0; rw [e1] at f1; rw [e2] at f2; rw [e3] at f3
  obtain ⟨a, ha, wa⟩ := trod_i16 Try.underlying63 f0
  obtain ⟨b, hb, wb⟩ := trod_i16 Try.underlying63 f1
  obtain ⟨c, hc, wc⟩ := trod_i16 Try.underlying63 f2
  obtain ⟨d, hd, wd⟩ := trod_i16 Try.underlying63 f3
  match cs, hl with
  | [u0, u1, u2, u3], _ =>
    simp at ha hb hc hd
    subst ha; subst hb; subst hc; subst hd
    exact ⟨⟨a, b, c, d⟩, rfl, wa, wb, wc, wd⟩
theorem wayCells_closed (l : List Way) : (wayCells l).all closed1 = true := by
  rw [List.all_eq_true]; intro v hv
  simp only [wayCells, List.mem_flatMap, Way.cells] at hv
  obtain ⟨m, _, hv⟩ := hv
  simp only [List.mem_cons, List.not_mem_nil, or_false] at hv
  rcases hv with rfl | rfl | rfl | rfl <;> rfl
/-- A slice of ways that came in. -/
theorem ways_in {W : World} {h : Heap} {m : LMap} {n : Nat} (E : Ent h m n W) {fuel : Nat} {cs : List Value} {x : DataW H × List MemPlace} (hf : DataW.trod enc Try.prog W 0 spare held fuel 65 cs = some x) :
    ∃ A0 l0 k0, cs = [.slice A0 l0 k0] ∧ ∃ ms lv h' m' n', Ent h' m' n' W ∧ m.le m' ∧ n ≤ n' ∧ (∀ L, L < n → h' L = h L) ∧ VR3 m' lv (.slice A0 l0 k0) ∧ RO h' 4 lv (wayCells ms) ms.length ∧ (∀ x ∈ ms, x.Fit) ∧ ms.length ≤ 9223372036854775807 := by
  rcases Go.Deep.open_slice Try.underlying65 hf with ⟨hcs, _⟩ | ⟨a, len, cap, mm, nn, D, Pl, hcs, _, hl, hmx, hmm, _, hel⟩
  · exact ⟨_, _, _, hcs, [], .slice none 0 0, h, m, n, E, m.le_refl, Nat.le_refl n, fun _ _ => rfl, VR3.refl rfl, RO.nil, fun x hx => (by cases hx), by simp⟩
  · refine ⟨_, _, _, hcs, ?_⟩
    simp only [c103] at hel
    have hmx' : len ≤ 9223372036854775807 := by
      have : maxLen = 9223372036854775807 := rfl
      omega
    have hmle : len ≤ mm := by rw [hmm]; split <;> omega
    obtain ⟨ms, hms, hel2⟩ := list_of (p := fun i (x : Way) => W.cells? 0 (a.add (i * 4)) 4 = some x.cells ∧ x.Fit ∨ False) len fun i hi => by
      obtain ⟨cs', h1, h2⟩ := hel i (by omega)
      obtain ⟨x, rfl, hx⟩ := trod_way h2
      obtain ⟨q1, q2, q3⟩ := World.cells?_some h1
      refine ⟨x, .inl ⟨?_, hx⟩⟩
      unfold World.cells? at h1 ⊢
      rw [if_pos q1] at h1
      rw [if_pos (Nat.zero_le _)]; exact h1
    have hfit : ∀ x ∈ ms, x.Fit := by
      intro x hx
      obtain ⟨i, hi, rfl⟩ := List.mem_iff_getElem.1 hx
      rcases hel2 i hi with h | h
      · exact h.2
      · exact h.elim
    by_cases h0 : len = 0
    · subst h0
      have : ms = [] := List.eq_nil_of_length_eq_zero hms
      subst this
      exact ⟨[], .slice (some ⟨0, 0, none⟩) 0 0, h, m, n, E, m.le_refl, Nat.le_refl n, fun _ _ => rfl, slice_in_empty, ⟨rfl, _, _, rfl, fun h => (nomatch h), fun h => absurd h (by simp)⟩, hfit, by simp⟩
    · have hlen := wayCells_length ms
      have hcell0 : ∀ i q vv, i < ms.length → q < 4 → (wayCells ms)[i * 4 + q]? = some vv → W.cell? ((a.add (i * 4)).add q) = some vv := by
        intro i q vv hi hq hv
        rcases hel2 i hi with ⟨h1, _⟩ | h
        · obtain ⟨_, _, h3⟩ := World.cells?_some h1
          rw [h3 q hq]
          have e1 := congrArg (·[q]?) (wayCells_at ms i hi)
          simp only [List.getElem?_take, List.getElem?_drop, if_pos hq] at e1
          rw [← e1]; exact hv
        · exact h.elim
      have hsp : a.spot = none := by
        have hpos : 0 < (wayCells ms).length := by omega
        have := hcell0 0 0 _ (by omega) (by omega) (List.getElem?_eq_getElem (by omega))
        have := World.cell?_spot this
        simpa [Addr.add] using this
      obtain ⟨b, m', hb1, hb2, hb3, E', hle, r, hm', _⟩ := E.row (a := a) (cells := wayCells ms) (by omega) (fun j vv hj => by
        have hjl := (List.getElem?_eq_some_iff.1 hj).1
        have hq := Nat.mod_lt j (show 0 < 4 by omega)
        have he : j / 4 * 4 + j % 4 = j := by omega
        have := hcell0 (j / 4) (j % 4) vv (by omega) hq (by rw [he]; exact hj)
        rw [add_add hsp, he] at this
        exact this) (wayCells_closed ms)
      refine ⟨ms, .slice (some ⟨n, 0, none⟩) len 0, upd h n b, m', n + 1, E', hle, by omega, fun L hL => by rw [upd_at, if_neg (by omega)], slice_in hm' hsp (by omega) hl, ?_, hfit, by omega⟩
      rw [hms]
      refine ⟨by omega, _, _, rfl, fun h => (nomatch h), fun _ => ⟨_, b, rfl, by rw [upd_at, if_pos rfl], hb3, hb2, by rw [hb1]; simp only; omega, ?_⟩⟩
      rw [hb1]; simp only [List.drop_zero]; rw [← hms, ← hlen]; exact List.take_length
theorem trod_three {fuel : Nat} {cs : List Value} {x : DataW H × List MemPlace} (h : DataW.trod enc Try.prog w base spare held fuel 64 cs = some x) : ∃ a b c, cs = [.int .i16 a, .int .i16 b, .int .i16 c] ∧ i16 a ∧ i16 b ∧ i16 c := by
  obtain ⟨xs, n, _, _, hl, hxl, hx⟩ := DataW.trod_array Try.underlying64 h
  rw [c64] at hl
  simp only [c63] at hx
  have g : ∀ i, i < 3 → ∃ y, xs[i]? = some y := fun i hi => ⟨xs[i], List.getElem?_eq_getElem (by omega)⟩
  obtain ⟨y0, e0⟩ := g 0 (by omega)
  obtain ⟨y1, e1⟩ := g 1 (by omega)
  obtain ⟨y2, e2⟩ := g 2 (by omega)
  have f0 := hx 0 (by omega)
  have f1 := hx 1 (by omega)
  have f2 := hx 2 (by omega)
  rw [e0] at f0; rw [e1] at f1; rw [e2] at f2
  obtain ⟨a, ha, wa⟩ := trod_i16 Try.underlying63 f0
  obtain ⟨b, hb, wb⟩ := trod_i16 Try.underlying63 f1
  obtain ⟨c, hc, wc⟩ := trod_i16 Try.underlying63 f2
  match cs, hl with
  | [u0, u1, u2], _ =>
    simp at ha hb hc
    subst ha; subst hb; subst hc
    exact ⟨a, b, c, rfl, wa, wb, wc⟩
theorem trod_lims {fuel : Nat} {cs : List Value} {x : DataW H × List MemPlace} (h : DataW.trod enc Try.prog w base spare held fuel 66 cs = some x) : ∃ a b c, cs = [.int .i64 a, .int .i64 b, .int .i64 c] := by
  obtain ⟨xs, n, _, _, hl, hxl, hx⟩ := DataW.trod_struct Try.underlying66 h
  have hxl : xs.length = 3 := hxl
  rw [c66] at hl
  have g : ∀ i, i < 3 → ∃ y, xs[i]? = some y := fun i hi => ⟨xs[i], List.getElem?_eq_getElem (by omega)⟩
  obtain ⟨y0, e0⟩ := g 0 (by omega)
  obtain ⟨y1, e1⟩ := g 1 (by omega)
  obtain ⟨y2, e2⟩ := g 2 (by omega)
  have f0 := hx 0 { name := "Speed", type := 2, offset := 0, embedded := false, tag := "", pkgPath := "", byteOffset := 0 } rfl
  have f1 := hx 1 { name := "Accel", type := 2, offset := 1, embedded := false, tag := "", pkgPath := "", byteOffset := 8 } rfl
  have f2 := hx 2 { name := "Jerk", type := 2, offset := 2, embedded := false, tag := "", pkgPath := "", byteOffset := 16 } rfl
  rw [e0] at f0; rw [e1] at f1; rw [e2] at f2
  simp only [c2] at f0 f1 f2
  obtain ⟨a, ha, wa⟩ := trod_i64 Try.underlying2 f0
  obtain ⟨b, hb, wb⟩ := trod_i64 Try.underlying2 f1
  obtain ⟨c, hc, wc⟩ := trod_i64 Try.underlying2 f2
  match cs, hl with
  | [u0, u1, u2], _ =>
    simp at ha hb hc
    subst ha; subst hb; subst hc
    exact ⟨a, b, c, rfl⟩
theorem vr3_to1 {m : LMap} {v : Value} {A : Option Addr} {l k : Nat} (h : VR3 m v (.slice A l k)) : VR1 m v (.slice A l k) := by
  cases h with
  | of2 h => cases h with
    | of1 h => exact h
/-- A trip that came in. -/
theorem trip_in {W : World} {h : Heap} {m : LMap} {n : Nat} (E : Ent h m n W) {v : Value} {d : DataW H} {p : List MemPlace} (hv : ∃ cs, v = .agg cs) (hk : DataW.Trod enc Try.prog W 0 spare held 68 v d p) :
    ∃ x y z S A J lv ws h' m' n', (i16 x ∧ i16 y ∧ i16 z) ∧ Ent h' m' n' W ∧ m.le m' ∧ n ≤ n' ∧ VR3 m' (tripV x y z lv S A J) v ∧ RO h' 4 lv (wayCells ws) ws.length ∧ (∀ x ∈ ws, x.Fit) ∧ ws.length ≤ 9223372036854775807 := by
  obtain ⟨cs, rfl⟩ := hv
  obtain ⟨fuel, hf⟩ := hk
  obtain ⟨xs, n0, _, _, hl, hxl, hx⟩ := DataW.trod_struct Try.underlying68 hf
  have hxl : xs.length = 3 := hxl
  rw [c68] at hl
  have g : ∀ i, i < 3 → ∃ y, xs[i]? = some y := fun i hi => ⟨xs[i], List.getElem?_eq_getElem (by omega)⟩
  obtain ⟨y0, e0⟩ := g 0 (by omega)
  obtain ⟨y1, e1⟩ := g 1 (by omega)
  obtain ⟨y2, e2⟩ := g 2 (by omega)
  have f0 := hx 0 { name := "From", type := 64, offset := 0, embedded := false, tag := "", pkgPath := "", byteOffset := 0 } rfl
  have f1 := hx 1 { name := "Ways", type := 65, offset := 3, embedded := false, tag := "", pkgPath := "", byteOffset := 8 } rfl
  have f2 := hx 2 { name := "Limits", type := 66, offset := 4, embedded := false, tag := "", pkgPath := "", byteOffset := 32 } rfl
  rw [e0] at f0; rw [e1] at f1; rw [e2] at f2
  simp only [c64, c65, c66] at f0 f1 f2
  obtain ⟨x, y, z, h0, w0⟩ := trod_three f0
  obtain ⟨A0, l0, k0, h1, ws, lv, h', m', n', E', hle, hn, _, hvr, hro, hfit, few⟩ := ways_in E f1
  obtain ⟨S, A, J, h2⟩ := trod_lims f2
  obtain ⟨l⟩ := cs
  simp only [Value.cells] at hl h0 h1 h2
  match l, hl with
  | [u0, u1, u2, u3, u4, u5, u6], _ =>
    simp at h0 h1 h2
    obtain ⟨rfl, rfl, rfl⟩ := h0
    subst h1
    obtain ⟨rfl, rfl, rfl⟩ := h2
    refine ⟨x, y, z, S, A, J, lv, ws, h', m', n', w0, E', hle, hn, ?_, hro, hfit, few⟩
    have c : ∀ u : Value, closed0 u = true → VR1 m' u u := fun u hu => .of0 (.closed hu)
    exact .of2 (.agg (.cons (c _ rfl) (.cons (c _ rfl) (.cons (c _ rfl) (.cons (vr3_to1 hvr) (.cons (c _ rfl) (.cons (c _ rfl) (.cons (c _ rfl) .nil))))))))
end
end Go.Proofs.Ytoinimkmoojcoaa
/- TopRestart returns true for every input, and leaves its arguments as they were. -/
set_option maxRecDepth 100000
set_option linter.unusedSimpArgs false
set_option linter.unusedVariables false
namespace Go.Proofs.Ytoinimkmoojcoaa
open Go Go.Dm Go.ChangeShapes Go.WideShapes Go.ChangeAt Go.RowKit
theorem own : ownKnob Try.prog.godebug = none := by kernel_rfl
theorem laidOut : laidOutB Try.prog = true := by kernel_rfl
/-- Two positions in a row. -/
theorem okWide_struct {P : Program} {w : World} {r : Reach} {b0 : Nat} {t : TypeId} {v : Value} {fs} (ht : P.underlying t = some (TypeDesc.struct fs)) (h : Value.okWide P w r b0 t v) : ∃ cs, v = .agg cs := by
  simp only [Value.okWide, ht] at h
  obtain ⟨cs, h1, _⟩ := h
  exact ⟨cs, h1⟩
theorem lifted10 (os : Os) (started : os.Started) (H : Type) (enc : TypeId × Value → H) :
    ReturnsInHanded {} Try.checked os 10 .any (Rows.topRestartSpec.pre6 enc Try.prog Try.f10 Rows.topRestartRow.domain false) (Rows.topRestartSpec.post enc Try.prog Try.f10 false true false false) := by
  refine returnsInHanded_of_change (C := Try.checked) own started (by kernel_rfl) Try.func10
    (ChangeSpec.witness6 (enc := enc) (C := Try.checked) false ⟨#[], #[.agg #[.int .i16 0, .int .i16 0, .int .i16 0, .slice none 0 0, .int .i64 0, .int .i64 0, .int .i64 0], .int .u8 0, .int .u16 0], []⟩ 8 (by kernel_rfl) (by kernel_rfl) (by kernel_rfl) (by kernel_rfl)) ?_
  intro W base args ds gs before hval0 hW hcnd _
  have hval : ∀ (j : Nat) t v, Try.f10.params[j]? = some t → args[j]? = some v → Value.okWide Try.prog W .any base t v := hval0
  have hW' := hW
  obtain ⟨p, q, hA0, hV, rfl, hfz, hnd⟩ := hW
  have hA : DataW.TrodAll enc Try.prog W 0 (fun _ => true) true Try.f10.params.toList args.toList ds p := hA0
  rw [Try.params10] at hA hval
  obtain ⟨v0, vs0, d0, ds0, p0, q0, hargs, rfl, rfl, h0, r0⟩ := trodAll_cons hA
  obtain ⟨v1, vs1, d1, ds1, p1, q1, rfl, rfl, rfl, h1, r1⟩ := trodAll_cons r0
  obtain ⟨v2, vs2, d2, ds2, p2, q2, rfl, rfl, rfl, h2, r2⟩ := trodAll_cons r1
  obtain ⟨rfl, rfl, rfl⟩ := trodAll_nil r2
  obtain rfl : args = #[v0, v1, v2] := by cases args; simp_all
  obtain ⟨rfl, rfl⟩ := trodVars_none hV
  have agg0 : ∃ cs, v0 = .agg cs := okWide_struct Try.underlying68 (hval 0 68 v0 rfl rfl)
  have lt0 : ∀ x ∈ p0, x.block < W.heap.size := by obtain ⟨m, hm⟩ := h0; exact DataW.trod_lt m _ _ _ hm
  obtain ⟨tk, rfl, rfl, rfl, wt⟩ := open_int Try.underlying5 (hval 1 5 v1 rfl rfl) h1
  obtain ⟨sf, rfl, rfl, rfl, wf⟩ := open_int Try.underlying69 (hval 2 69 v2 rfl rfl) h2
  clear hA0 hval0
  obtain ⟨x, y, z, S, A, J, lv, ws, g1, m1, n1, hx, E1, _, _, q0, ro1, fit, few⟩ := trip_in (Ent.nil W) agg0 h0
  have hwt : 0 ≤ tk ∧ tk ≤ 255 := by have := wt; simp only [Lit.wf, Bool.and_eq_true, decide_eq_true_eq] at this; exact this
  have hwf : 0 ≤ sf ∧ sf ≤ 65535 := by have := wf; simp only [Lit.wf, Bool.and_eq_true, decide_eq_true_eq] at this; exact this
  refine ((w10 hx ro1 fit few hwt hwf n1).law E1 ⟨_, Try.func10, by kernel_rfl, by kernel_rfl⟩ (args := [v0, .int .u8 tk, .int .u16 sf]) (.cons q0 (.cons (VR3.refl rfl) (.cons (VR3.refl rfl) .nil)))).mono fun e W' ⟨he, bel⟩ => ?_
  subst he
  exact ⟨_, rfl, _, _, _, [], _, [], hW', trodAll_mk1 (shut_bool Try.underlying4 _), (trodAll_cons_mk (Below.trod laidOut (by kernel_rfl) (of_decide_eq_true (by kernel_rfl)) h0 bel lt0) (trodAll_cons_mk (shut_int Try.underlying5 wt) (trodAll_cons_mk (shut_int Try.underlying69 wf) trodAll_mk0))), rfl, bel.frame _, fun h => by cases h⟩
theorem over10 : Rows.topRestartRow.holds Try.pinned (OpenSpec.ofChange Rows.topRestartSpec) :=
  OpenClaim.holds_of_wide 10 Try.f10 rfl rfl rfl rfl rfl rfl rfl ⟨rfl, rfl, rfl, rfl, rfl⟩ rfl rfl rfl rfl rfl (by kernel_rfl) Try.func10 (by kernel_rfl)
    (of_decide_eq_true (by kernel_rfl)) (by unfold Func.isWrapper; first | (rw [if_pos (by decide +kernel)]; kernel_rfl) | (rw [if_neg (by decide +kernel)]; exact ⟨rfl, rfl⟩))
    (fun os started H enc _ => lifted10 os started H enc)
/-- THE STATEMENT. -/
theorem topRestart : Rows.TopRestartSaid := over10
#print axioms topRestart
end Go.Proofs.Ytoinimkmoojcoaa
