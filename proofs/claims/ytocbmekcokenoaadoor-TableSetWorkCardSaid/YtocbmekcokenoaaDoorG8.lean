/- Walks, part L4. -/
import Derived.Test.YtocbmekcokenoaaDoorG7
set_option maxRecDepth 100000
set_option maxHeartbeats 4000000
set_option linter.unusedSimpArgs false
set_option linter.unusedVariables false
namespace Go.Proofs.YtocbmekcokenoaaDoor
open Go Go.Dm
attribute [local simp ↓] RunS_nil RunS_op RunS_guard RunT_nil RunT_op RunT_guard opS_call opD_call opS_move opD_move opS_assign opD_assign opS_pick opD_pick opS_nilCheck opD_nilCheck opS_fieldAddr opD_fieldAddr opS_indexAddr opD_indexAddr opS_load opD_load opS_store opD_store opS_alloc opD_alloc opS_box opD_box opS_build opD_build opS_buildSlice opD_buildSlice opS_field opD_field opS_extract opD_extract opS_makeFunc opD_makeFunc opS_slice opD_slice opS_binOp opD_binOp opS_unOp opD_unOp opS_convert opD_convert opS_index opD_index opS_len opD_len opS_append opD_append opS_max opD_max opS_min opD_min opS_makeSlice opD_makeSlice opS_makeInterface opD_makeInterface opS_copy opD_copy opS_data opD_data opS_string opD_string opS_cap opD_cap obind_some obind_none thenH_normal thenH_ret thenH_exit blockA_normal blockA_ret blockA_exit thenA_normal thenA_ret thenA_exit dstAt_mk dstL_zero dstL_succ
attribute [local simp] shB undef wantG_bool wantG_undef findO_some calleeS find putA ev closed3 closed2 closed1 closed0 pickA orE_some orE_none binF binXO binX binB strX unF convF convX convB mxF eqNilA fastBin fastUn fastConv intBin argEnv resultsA resultsL resultA notTuple allocs eff
  loadO storeO allocO boxO sliceO sliceX indexO indexXO indexX indexB lenO lenS capX ifaceO indexAddrA loadA storeA newA isAggT nilCheckA lenA evAll evParts aadd gen upd_at upd_upd Value.cells mxV Pairs apart readsS readB labOf putAt fieldA partA extractA makeFuncA evOpt boundOf sliceA isV0 Nat.add_assoc
attribute [local simp] bu23_z bu23_0_1_2 bu27_z bu27_0_1 bu27_0 bu33_z bu33_0 bu48_0_1 bu61_0_1 bs25_0_z bs25_1_0 bs31_0_z bs31_1_0 bs74_1_0 bs82_3_0_1_2
attribute [local simp ↓] eql23 neq23 eql48 neq48 eql61 neq61 eql24 neq24
attribute [local simp] fa23_0 fa23_1 fa23_2 fa48_0 fa48_1 fa61_0 fa61_1 fa33_0 fa33_1 fa27_0 fa27_1
attribute [local simp] c2 b2 z2 c3 b3 z3 c4 b4 z4 c5 b5 z5 c9 b9 z9 c23 b23 z23 h23 g23 c24 b24 z24 c25 b25 z25 c27 b27 z27 h27 g27 c29 b29 z29 c31 b31 z31 c33 b33 z33 h33 g33 c48 b48 z48 h48 g48 c50 b50 z50 c58 b58 z58 c61 b61 z61 h61 g61 Tryd.underlying2 Tryd.underlying3 Tryd.underlying4 Tryd.underlying5 Tryd.underlying9 Tryd.underlying23 Tryd.underlying24 Tryd.underlying25 Tryd.underlying27 Tryd.underlying29 Tryd.underlying31 Tryd.underlying33 Tryd.underlying48 Tryd.underlying50 Tryd.underlying58 Tryd.underlying61
abbrev u_lTableMachine_3 : List (Nat × Nat) := [(1, 3), (1, 5), (1, 6), (0, 11), (1, 11), (3, 11), (5, 11), (6, 11), (7, 11)]
abbrev u_lTableMachine_5 : List (Nat × Nat) := [(1, 3), (1, 5), (1, 6), (0, 11), (1, 11), (3, 11), (5, 11), (6, 11), (7, 11)]
theorem RD.floats {h : Heap} {s : Value} {T : Tb} (hr : RD h 2 s (lnCells T.ls) T.ls.length) (few : T.ls.length ≤ 1000000000000) (N : Nat) : ∃ F : List Nat, (∀ L ∈ F, (h L).isSome = true) ∧
    ∀ h2 : Heap, (∀ L ∈ F, h2 L = h L) → SpecL Tryd.prog 10 [T.v s] h2 N (T.v (gcv N 2 T.ls.length)) (gcu N 48 (lnCells T.ls) T.ls.length false) := by
  obtain ⟨F, f1, _, f2⟩ := hr.agree
  exact ⟨F, f1, fun h2 hh => SpecL.gc (F := fun s => T.v s) (carries_tab T) (lnCells_closed _) (fun n => w_ltheirs_raw (f2 h2 hh) few n) false⟩
theorem w_lTableMachine {h : Heap} {s : Value} {T : Tb} (hr : RD h 2 s (lnCells T.ls) T.ls.length) (hwk : ∀ p ∈ T.work, p.Fit) (c k : Int) (p : P3) (n : Nat) :
    Dm.Spec Tryd.prog 6 [T.v s, .agg #[.int .i64 c, .int .i64 k], p.v] h n fun r' h' n' => r' = .bool true ∧ h' = h ∧ n' = n := by
  refine pureAt Tryd.func6 rfl (by kernel_rfl) Tryd.ntmps6 (by rw [Tryd.results6]) (Nat.le_of_ble_eq_true rfl) ?_
  refine Sat.lt fun hlt => ?_
  obtain ⟨Ad, cd, rfl⟩ := hr.len
  refine Sat.sq ?_
  refine Sat.reg (by kernel_rfl) ?_
  simp -dsimp
  generalize hh1 : upd (upd (upd h n _) (n + 1) _) (n + 2) _ = h1
  have hn : h1 n = some ⟨T.wcells ++ [.slice Ad T.ls.length cd], 27, 0, true⟩ := by rw [← hh1]; simp [upd_at]
  have hn1 : h1 (n + 1) = some ⟨[.int .i64 c, .int .i64 k], 50, 0, true⟩ := by rw [← hh1]; simp [upd_at]
  have hn2 : h1 (n + 2) = some ⟨p.cells, 23, 0, true⟩ := by rw [← hh1]; simp [upd_at]
  have hk : ∀ L, L < n → h1 L = h L := fun L hL => by rw [← hh1, upd_at, upd_at, upd_at, if_neg (by omega), if_neg (by omega), if_neg (by omega)]
  have hr1 : RD h1 2 _ (lnCells T.ls) T.ls.length := hr.mono fun L b hb => by rw [hk L (hlt _ _ hb)]; exact hb
  refine Sat.sq ?_
  refine Sat.sq ?_
  refine Sat.reg (by kernel_rfl) ?_
  simp -dsimp
  refine w8.useH ?_
  simp -dsimp [hn]
  refine Sat.ite rfl (fun hc => ?_) (fun hc => ?_)
  · refine Sat.sq ?_
    refine Sat.reg (by kernel_rfl) ?_
    simp -dsimp
    refine w8.useH ?_
    simp -dsimp
    exact Sat.ret (PureQ.ret rfl hk rfl)
  · have few : T.ls.length ≤ 40 := by
      have : ¬ (40 : Int) < T.ls.length := by simpa using hc
      omega
    refine Sat.skip ?_
    simp -dsimp
    refine Sat.sq ?_
    refine Sat.drw u_lTableMachine_3 mixed (by kernel_rfl) (by kernel_rfl) (by kernel_rfl) (by kernel_rfl) ?_
    simp -dsimp [hn]
    obtain ⟨F0, f0, r0⟩ := hr1.floats (by omega) (n + 3)
    have g1 : applyU h1 (gcu (n + 3) 48 (lnCells T.ls) T.ls.length false) (n + 1) = some ⟨[.int .i64 c, .int .i64 k], 50, 0, true⟩ := by rw [gc_old (by omega)]; exact hn1
    have g2 : applyU h1 (gcu (n + 3) 48 (lnCells T.ls) T.ls.length false) (n + 2) = some ⟨p.cells, 23, 0, true⟩ := by rw [gc_old (by omega)]; exact hn2
    obtain ⟨A2, c2, e2⟩ := gcv_val (n + 3) 2 T.ls.length
    have hrt := gc_rd (h := h1) (n := n + 3) (e := 48) (lnCells_length T.ls) false
    obtain ⟨F1, f1, r1⟩ := hrt.reads (g := 19) (args := [T.v (gcv (n + 3) 2 T.ls.length), .int .i64 c, .int .i64 k, p.v]) (r := posV (T.go c k p 1)) (fun h2 n2 hr2 => w_tMachine hr2 (by omega) c k p n2)
    refine callD.float _ _ F0 r0 ?_
    rw [e2] at hrt r1 ⊢
    simp -dsimp [g1, g2]
    refine callD.reads _ F1 r1 ?_
    generalize hbe1 : T.go c k p 1 = be1
    obtain ⟨a1, x1⟩ := be1
    simp -dsimp
    have hlt1 : ∀ L b, h1 L = some b → L < n + 3 := fun L b hb => by
      rw [← hh1] at hb
      simp only [upd_at] at hb
      split at hb
      · omega
      · split at hb
        · omega
        · split at hb
          · omega
          · have := hlt _ _ hb; omega
    have hltg : ∀ L b, applyU h1 (gcu (n + 3) 48 (lnCells T.ls) T.ls.length false) L = some b → L < n + 4 := fun L b hb => by
      by_cases hL : L < n + 4
      · exact hL
      · rw [applyU_ne _ (fun u hu => by have := gc_at u hu; omega)] at hb
        have := hlt1 L b hb; omega
    refine ⟨⟨fun a b hab => by have := gc_at _ hab; simp only at this; omega, fun a b hab => by have := gc_at _ hab; simp only at this; omega, ⟨fun a b hab => by have := gc_at _ hab; simp only at this; omega, fun hm => by
        obtain ⟨b, hb⟩ := Option.isSome_iff_exists.1 (f0 _ hm)
        have := hlt1 _ _ hb; omega⟩, fun hm => by
        obtain ⟨b, hb⟩ := Option.isSome_iff_exists.1 (f1 _ hm)
        have := hltg _ _ hb; omega⟩, ?_⟩
    clear r0 r1 f0 f1 F0 F1
    generalize hh3 : upd (applyU h1 (gcu (n + 3) 48 (lnCells T.ls) T.ls.length false)) (n + 4) _ = h3
    have k3 : ∀ L, L < n + 3 → h3 L = h1 L := fun L hL => by rw [← hh3, upd_at, if_neg (by omega), gc_old (by omega)]
    have d3 : h3 (n + 4) = some ⟨a1.cells, 23, 0, true⟩ := by rw [← hh3]; simp [upd_at]
    have d0 : h3 n = some ⟨T.wcells ++ [.slice Ad T.ls.length cd], 27, 0, true⟩ := by rw [k3 _ (by omega)]; exact hn
    have d1 : h3 (n + 1) = some ⟨[.int .i64 c, .int .i64 k], 50, 0, true⟩ := by rw [k3 _ (by omega)]; exact hn1
    have d2 : h3 (n + 2) = some ⟨p.cells, 23, 0, true⟩ := by rw [k3 _ (by omega)]; exact hn2
    have hr3 : RD h3 2 (.slice Ad T.ls.length cd) (lnCells T.ls) T.ls.length := hr.mono fun L b hb => by rw [k3 L (by have := hlt _ _ hb; omega), hk L (hlt _ _ hb)]; exact hb
    have hlt3 : ∀ L b, h3 L = some b → L < n + 5 := fun L b hb => by
      rw [← hh3, upd_at] at hb
      split at hb
      · omega
      · have := hltg _ _ hb; omega
    refine Sat.sq ?_
    refine Sat.reg (by kernel_rfl) ?_
    simp -dsimp [d0, d1, d2]
    refine (w_rMachine hr3 (by omega) hwk c k p _).useH ?_
    rw [hbe1]
    simp -dsimp
    generalize hh4 : upd h3 (n + 5) _ = h4
    have k4 : ∀ L, L < n + 5 → h4 L = h3 L := fun L hL => by rw [← hh4, upd_at, if_neg (by omega)]
    have e5 : h4 (n + 5) = some ⟨a1.cells, 23, 0, true⟩ := by rw [← hh4]; simp [upd_at]
    have e4 : h4 (n + 4) = some ⟨a1.cells, 23, 0, true⟩ := by rw [k4 _ (by omega)]; exact d3
    have e0 : h4 n = some ⟨T.wcells ++ [.slice Ad T.ls.length cd], 27, 0, true⟩ := by rw [k4 _ (by omega)]; exact d0
    have e1 : h4 (n + 1) = some ⟨[.int .i64 c, .int .i64 k], 50, 0, true⟩ := by rw [k4 _ (by omega)]; exact d1
    have e2' : h4 (n + 2) = some ⟨p.cells, 23, 0, true⟩ := by rw [k4 _ (by omega)]; exact d2
    have hr4 : RD h4 2 (.slice Ad T.ls.length cd) (lnCells T.ls) T.ls.length := hr3.mono fun L b hb => by rw [k4 L (hlt3 _ _ hb)]; exact hb
    have hlt4 : ∀ L b, h4 L = some b → L < n + 6 := fun L b hb => by
      rw [← hh4, upd_at] at hb
      split at hb
      · omega
      · have := hlt3 _ _ hb; omega
    refine Sat.sq ?_
    refine Sat.drw u_lTableMachine_5 mixed (by kernel_rfl) (by kernel_rfl) (by kernel_rfl) (by kernel_rfl) ?_
    simp -dsimp [e0]
    obtain ⟨F0, f0, r0⟩ := hr4.floats (by omega) (n + 6)
    have i1 : applyU h4 (gcu (n + 6) 48 (lnCells T.ls) T.ls.length false) (n + 1) = some ⟨[.int .i64 c, .int .i64 k], 50, 0, true⟩ := by rw [gc_old (by omega)]; exact e1
    have i2 : applyU h4 (gcu (n + 6) 48 (lnCells T.ls) T.ls.length false) (n + 2) = some ⟨p.cells, 23, 0, true⟩ := by rw [gc_old (by omega)]; exact e2'
    obtain ⟨A3, c3, e3⟩ := gcv_val (n + 6) 2 T.ls.length
    have hrt := gc_rd (h := h4) (n := n + 6) (e := 48) (lnCells_length T.ls) false
    obtain ⟨F1, f1, r1⟩ := hrt.reads (g := 21) (args := [T.v (gcv (n + 6) 2 T.ls.length), .int .i64 c, .int .i64 k, p.v]) (r := posV (T.go c k p (-1))) (fun h2 n2 hr2 => w_tWork hr2 (by omega) c k p n2)
    refine callD.float _ _ F0 r0 ?_
    rw [e3] at hrt r1 ⊢
    simp -dsimp [i1, i2]
    refine callD.reads _ F1 r1 ?_
    generalize hbe2 : T.go c k p (-1) = be2
    obtain ⟨a2, x2⟩ := be2
    simp -dsimp
    have hltg : ∀ L b, applyU h4 (gcu (n + 6) 48 (lnCells T.ls) T.ls.length false) L = some b → L < n + 7 := fun L b hb => by
      by_cases hL : L < n + 7
      · exact hL
      · rw [applyU_ne _ (fun u hu => by have := gc_at u hu; omega)] at hb
        have := hlt4 L b hb; omega
    refine ⟨⟨fun a b hab => by have := gc_at _ hab; simp only at this; omega, fun a b hab => by have := gc_at _ hab; simp only at this; omega, ⟨fun a b hab => by have := gc_at _ hab; simp only at this; omega, fun hm => by
        obtain ⟨b, hb⟩ := Option.isSome_iff_exists.1 (f0 _ hm)
        have := hlt4 _ _ hb; omega⟩, fun hm => by
        obtain ⟨b, hb⟩ := Option.isSome_iff_exists.1 (f1 _ hm)
        have := hltg _ _ hb; omega⟩, ?_⟩
    clear r0 r1 f0 f1 F0 F1
    generalize hh5 : upd (applyU h4 (gcu (n + 6) 48 (lnCells T.ls) T.ls.length false)) (n + 7) _ = h5
    have k5 : ∀ L, L < n + 6 → h5 L = h4 L := fun L hL => by rw [← hh5, upd_at, if_neg (by omega), gc_old (by omega)]
    have j7 : h5 (n + 7) = some ⟨a2.cells, 23, 0, true⟩ := by rw [← hh5]; simp [upd_at]
    have j5 : h5 (n + 5) = some ⟨a1.cells, 23, 0, true⟩ := by rw [k5 _ (by omega)]; exact e5
    have j4 : h5 (n + 4) = some ⟨a1.cells, 23, 0, true⟩ := by rw [k5 _ (by omega)]; exact e4
    have j0 : h5 n = some ⟨T.wcells ++ [.slice Ad T.ls.length cd], 27, 0, true⟩ := by rw [k5 _ (by omega)]; exact e0
    have j1 : h5 (n + 1) = some ⟨[.int .i64 c, .int .i64 k], 50, 0, true⟩ := by rw [k5 _ (by omega)]; exact e1
    have j2 : h5 (n + 2) = some ⟨p.cells, 23, 0, true⟩ := by rw [k5 _ (by omega)]; exact e2'
    have hr5 : RD h5 2 (.slice Ad T.ls.length cd) (lnCells T.ls) T.ls.length := hr4.mono fun L b hb => by rw [k5 L (hlt4 _ _ hb)]; exact hb
    have hk5 : ∀ L, L < n → h5 L = h L := fun L hL => by rw [k5 _ (by omega), k4 _ (by omega), k3 _ (by omega)]; exact hk L hL
    refine Sat.sq ?_
    refine Sat.reg (by kernel_rfl) ?_
    simp -dsimp [j0, j1, j2]
    refine (w_rWork hr5 (by omega) hwk c k p _).useH ?_
    rw [hbe2]
    simp -dsimp
    refine Sat.sq ?_
    refine Sat.reg (by kernel_rfl) ?_
    simp -dsimp [j4, j5, j7]
    exact Sat.ret (PureQ.ret rfl (by repeat (first | exact keep_refl | assumption | refine keep_upd (by omega) ?_)) (by simp))

end Go.Proofs.YtocbmekcokenoaaDoor
