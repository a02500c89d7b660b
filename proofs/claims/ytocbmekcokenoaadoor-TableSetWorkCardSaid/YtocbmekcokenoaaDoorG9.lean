/- Walks, part B10. -/
import Derived.Test.YtocbmekcokenoaaDoorG7
import Derived.Test.YtocbmekcokenoaaDoorG8
set_option maxRecDepth 100000
set_option maxHeartbeats 4000000
set_option linter.unusedSimpArgs false
set_option linter.unusedVariables false
namespace Go.Proofs.YtocbmekcokenoaaDoor
open Go Go.Dm
attribute [local simp ↓] RunS_nil RunS_op RunS_guard RunT_nil RunT_op RunT_guard opS_call opD_call opS_move opD_move opS_assign opD_assign opS_pick opD_pick opS_nilCheck opD_nilCheck opS_fieldAddr opD_fieldAddr opS_indexAddr opD_indexAddr opS_load opD_load opS_store opD_store opS_alloc opD_alloc opS_box opD_box opS_build opD_build opS_buildSlice opD_buildSlice opS_field opD_field opS_extract opD_extract opS_makeFunc opD_makeFunc opS_slice opD_slice opS_binOp opD_binOp opS_unOp opD_unOp opS_convert opD_convert opS_index opD_index opS_len opD_len opS_append opD_append opS_max opD_max opS_min opD_min opS_makeSlice opD_makeSlice opS_makeInterface opD_makeInterface opS_copy opD_copy opS_data opD_data opS_string opD_string opS_cap opD_cap obind_some obind_none thenH_normal thenH_ret thenH_exit blockA_normal blockA_ret blockA_exit thenA_normal thenA_ret thenA_exit dstAt_mk dstL_zero dstL_succ
attribute [local simp] shB undef wantG_bool wantG_undef findO_some calleeS find putA ev closed3 closed2 closed1 closed0 pickA orE_some orE_none binF binXO binX binB strX unF convF convX convB mxF eqNilA fastBin fastUn fastConv intBin argEnv resultsA resultsL resultA notTuple allocs eff
  loadO storeO allocO boxO sliceO sliceX indexO indexXO indexX indexB lenO lenS capX ifaceO indexAddrA loadA storeA newA isAggT nilCheckA lenA evAll evParts aadd gen upd_at upd_upd Value.cells mxV Pairs apart readsS readB labOf putAt fieldA partA extractA makeFuncA evOpt boundOf sliceA isV0 Nat.add_assoc
attribute [local simp] bu23_z bu23_0_1_2 bu27_z bu27_0_1 bu27_0 bu33_z bu33_0 bu48_0_1 bu61_0_1 bs25_0_z bs25_1_0 bs31_0_z bs31_1_0 bs74_1_0 bs82_3_0_1_2
attribute [local simp ↓] eql23 neq23 eql48 neq48 eql61 neq61 eql24 neq24
attribute [local simp] fa23_0 fa23_1 fa23_2 fa48_0 fa48_1 fa61_0 fa61_1 fa33_0 fa33_1 fa27_0 fa27_1
attribute [local simp] c2 b2 z2 c3 b3 z3 c4 b4 z4 c5 b5 z5 c9 b9 z9 c23 b23 z23 h23 g23 c24 b24 z24 c25 b25 z25 c27 b27 z27 h27 g27 c29 b29 z29 c31 b31 z31 c33 b33 z33 h33 g33 c48 b48 z48 h48 g48 c50 b50 z50 c58 b58 z58 c61 b61 z61 h61 g61 Tryd.underlying2 Tryd.underlying3 Tryd.underlying4 Tryd.underlying5 Tryd.underlying9 Tryd.underlying23 Tryd.underlying24 Tryd.underlying25 Tryd.underlying27 Tryd.underlying29 Tryd.underlying31 Tryd.underlying33 Tryd.underlying48 Tryd.underlying50 Tryd.underlying58 Tryd.underlying61
theorem RD.cells {P : Program} {h : Heap} {k m : Nat} {s : Value} {cells : List Value} (hr : RD h k s cells m) : sliceCells P h k s = some cells := by
  obtain ⟨h1, A, c, rfl, h3, h4⟩ := hr
  by_cases hm : m = 0
  · subst hm
    have : cells = [] := List.eq_nil_of_length_eq_zero (by omega)
    subst this
    unfold sliceCells; cases A <;> simp
  · obtain ⟨a, b, rfl, x2, x3, x4, x5⟩ := h4 (by omega)
    obtain ⟨j, rfl⟩ : ∃ j, m = j + 1 := ⟨m - 1, by omega⟩
    unfold sliceCells
    simp only [x2]
    simp [x3, x4, x5]
/-- A slice that can be read, and is fresh. -/
def FR (h' : Heap) (n n' : Nat) (r : Value) (cells : List Value) (m : Nat) : Prop := ∀ h2 : Heap, (∀ L, n ≤ L → L < n' → h2 L = h' L) → RD h2 2 r cells m
theorem FR.rd {h' : Heap} {n n' : Nat} {r : Value} {cells : List Value} {m : Nat} (hf : FR h' n n' r cells m) : RD h' 2 r cells m := hf h' fun _ _ _ => rfl
theorem FR.mono {h' h2 : Heap} {n n' n1 n2 : Nat} {r : Value} {cells : List Value} {m : Nat} (hf : FR h' n n' r cells m) (h1 : n1 ≤ n) (h3 : n' ≤ n2) (hh : ∀ L, n ≤ L → L < n' → h2 L = h' L) : FR h2 n1 n2 r cells m :=
  fun h4 h5 => hf h4 fun L a b => by rw [h5 L (by omega) (by omega), hh L a b]
def freshSl (cells : List Value) (m : Nat) (h : Heap) (n : Nat) (r : Value) (h' : Heap) (n' : Nat) : Prop := n ≤ n' ∧ (∀ L, L < n → h' L = h L) ∧ FR h' n n' r cells m
theorem w_sCloneLength {h : Heap} {s : Value} {cells : List Value} {m : Nat} (hr : RD h 2 s cells m) (few : m ≤ 1000000000000) (n : Nat) :
    Dm.Spec Tryd.prog 45 [s] h n (freshSl cells m h n) := by
  refine Spec.body Tryd.func45 rfl (by kernel_rfl) Tryd.ntmps45 (by rw [Tryd.results45]) (Nat.le_of_ble_eq_true rfl) ?_
  refine Sat.lt fun hlt => ?_
  have hl := hr.1
  have hx := hr.cells (P := Tryd.prog)
  obtain ⟨A, c, rfl⟩ := hr.len
  refine Sat.sq ?_
  refine Sat.reg (by kernel_rfl) ?_
  simp -dsimp
  refine Sat.sq ?_
  refine Sat.sq ?_
  refine Sat.reg (by kernel_rfl) ?_
  cases A with
  | none =>
    obtain ⟨rfl, rfl⟩ : m = 0 ∧ c = 0 := by
      obtain ⟨_, A2, c2, e2, h3, _⟩ := hr
      cases e2; exact h3 rfl
    have : cells = [] := List.eq_nil_of_length_eq_zero (by omega)
    subst this
    simp -dsimp
    refine Sat.cond (t := true) (by rfl) ?_
    refine Sat.sq ?_
    refine Sat.reg (by kernel_rfl) ?_
    simp -dsimp
    refine Sat.ret ?_
    try simp -dsimp only [thenH_ret, blockA_ret, thenA_ret]
    exact RetQ.ret (r := .slice none 0 0) (by rfl) ⟨Nat.le_refl _, fun _ _ => rfl, fun _ _ => .nil⟩
  | some a =>
    simp -dsimp
    refine Sat.cond (t := false) (by rfl) ?_
    refine Sat.skip ?_
    simp -dsimp
    refine Sat.sq ?_
    refine Sat.reg (by kernel_rfl) ?_
    by_cases hm0 : m = 0
    · subst hm0
      have : cells = [] := List.eq_nil_of_length_eq_zero (by omega)
      subst this
      simp -dsimp [appendA]
      refine Sat.ret ?_
      try simp -dsimp only [thenH_ret, blockA_ret, thenA_ret]
      exact RetQ.ret (r := .slice (some ⟨n, 0, none⟩) 0 1) (by rfl) ⟨by omega, fun L hL => by rw [upd_at, if_neg (by omega)], fun _ _ => ⟨rfl, _, _, rfl, (fun h => nomatch h), fun h => absurd h (by omega)⟩⟩
    · have hr2 : RD (upd h n ⟨[], 48, 0, true⟩) 2 (.slice (some a) m c) cells m := hr.upd hlt (Nat.le_refl n) _
      have hx' := hr2.cells (P := Tryd.prog)
      have ha : appendA Tryd.prog (upd h n ⟨[], 48, 0, true⟩) 31 (.slice (some ⟨n, 0, none⟩) 0 1) (.slice (some a) m c) (n + 1) = some (.slice (some ⟨n + 1, 0, none⟩) m 4, some (n + 1, ⟨cells, 48, 0, true⟩)) := by
        unfold appendA
        simp only [Tryd.underlying31, c48, if_pos (show 0 < 2 by omega), if_neg hm0, hx', z48, b48]
        have e0 : sliceCells Tryd.prog (upd h n ⟨[], 48, 0, true⟩) 2 (.slice (some ⟨n, 0, none⟩) 0 1) = some [] := by simp [sliceCells]
        rw [e0]
        simp
        omega
      simp -dsimp [ha]
      refine Sat.ret ?_
      try simp -dsimp only [thenH_ret, blockA_ret, thenA_ret]
      refine RetQ.ret (r := .slice (some ⟨n + 1, 0, none⟩) m 4) (by rfl) ⟨by omega, fun L hL => by rw [upd_at, upd_at, if_neg (by omega), if_neg (by omega)], fun h2 hh => ⟨hl, _, _, rfl, (fun h => nomatch h), fun _ => ⟨_, ⟨cells, 48, 0, true⟩, rfl, (hh (n + 1) (by omega) (by omega)).trans (by rw [upd_at, if_pos rfl]), rfl, by simp only; omega, ?_⟩⟩⟩
      simp only [List.drop_zero]; rw [← hl]; exact List.take_length
/-- A table that can be read; its slice is fresh, or old. -/
def readTab (T : Tb) (h : Heap) (n : Nat) (r : Value) (h' : Heap) (n' : Nat) : Prop := n ≤ n' ∧ (∀ L, L < n → h' L = h L) ∧ ∃ s', r = T.v s' ∧ FR h' n n' s' (lnCells T.ls) T.ls.length
theorem w_tclone {h : Heap} {s : Value} {T : Tb} (hr : RD h 2 s (lnCells T.ls) T.ls.length) (few : T.ls.length ≤ 1000000000000) (n : Nat) :
    Dm.Spec Tryd.prog 30 [T.v s] h n (readTab T h n) := by
  refine Spec.body Tryd.func30 rfl (by kernel_rfl) Tryd.ntmps30 (by rw [Tryd.results30]) (Nat.le_of_ble_eq_true rfl) ?_
  refine Sat.lt fun hlt => ?_
  obtain ⟨Ad, cd, rfl⟩ := hr.len
  refine Sat.sq ?_
  refine Sat.reg (by kernel_rfl) ?_
  simp -dsimp
  generalize hh1 : upd (upd h n _) (n + 1) _ = h1
  have hn : h1 n = some ⟨T.wcells ++ [.slice Ad T.ls.length cd], 33, 0, true⟩ := by rw [← hh1]; simp [upd_at]
  have hn1 : h1 (n + 1) = some ⟨[.int .i64 0, .int .i64 0, .int .i64 0, .int .i64 0, .int .i64 0, .int .i64 0, .int .i64 0, .int .i64 0, .int .i64 0, .int .i64 0, .int .i64 0, .int .i64 0, .int .i64 0, .int .i64 0, .int .i64 0, .int .i64 0, .int .i64 0, .int .i64 0, .slice none 0 0], 33, 0, true⟩ := by rw [← hh1]; simp [upd_at]
  have hk : ∀ L, L < n → h1 L = h L := fun L hL => by rw [← hh1, upd_at, upd_at, if_neg (by omega), if_neg (by omega)]
  have hr1 : RD h1 2 _ (lnCells T.ls) T.ls.length := hr.mono fun L b hb => by rw [hk L (hlt _ _ hb)]; exact hb
  refine Sat.sq ?_
  refine Sat.reg (by kernel_rfl) ?_
  simp -dsimp [hn]
  refine (w_sCloneLength hr1 few _).mono ?_
  rintro r h2 n2 ⟨hnn, hsame, hrd⟩
  obtain ⟨A2, c2, rfl⟩ := hrd.rd.len
  have b0 : h2 n = some ⟨T.wcells ++ [.slice Ad T.ls.length cd], 33, 0, true⟩ := by rw [hsame _ (by omega)]; exact hn
  have b1 := (hsame (n + 1) (by omega)).trans hn1
  simp -dsimp [b0]
  generalize hh3 : upd h2 n _ = h3
  have d0 : h3 n = some ⟨T.wcells ++ [.slice A2 T.ls.length c2], 33, 0, true⟩ := by rw [← hh3]; simp [upd_at]
  have k3 : ∀ L, L ≠ n → h3 L = h2 L := fun L hL => by rw [← hh3, upd_at, if_neg hL]
  have hne : n ≠ n2 := by omega
  refine Sat.sq ?_
  refine Sat.reg (by kernel_rfl) ?_
  simp -dsimp [d0, (k3 (n + 1) (by omega)).trans b1, hne, show n + 1 ≠ n2 by omega]
  refine Sat.ret ?_
  try simp -dsimp only [thenH_ret, blockA_ret, thenA_ret]
  refine RetQ.ret (r := T.v (.slice A2 T.ls.length c2)) (by simp) ⟨by omega, fun L hL => ?_, _, rfl, ?_⟩
  · rw [upd_at, if_neg (by omega), k3 _ (by omega), hsame _ (by omega)]; exact hk L hL
  · exact hrd.mono (by omega) (by omega) fun L h1 h2 => by rw [upd_at, if_neg (by omega), k3 _ (by omega)]
abbrev Tb0 : Tb := ⟨P0, P0, P0, P0, P0, P0, []⟩
def Tb.put (T : Tb) (i : Nat) (p : P3) : Tb := match i with
  | 0 => { T with p0 := p } | 1 => { T with p1 := p } | 2 => { T with p2 := p } | 3 => { T with p3 := p } | 4 => { T with p4 := p } | _ => { T with p5 := p }
theorem Tb.put_ls (T : Tb) (i : Nat) (p : P3) : (T.put i p).ls = T.ls := by unfold Tb.put; split <;> rfl
theorem store_work {T : Tb} {s : Value} {h1 : Heap} {n : Nat} {e : TypeId} (hn : h1 n = some ⟨T.wcells ++ [s], e, 0, true⟩) {i : Nat} (hi : i < 6) (p : P3) : storeA Tryd.prog h1 23 ⟨n, i * 3, none⟩ p.v = some (n, ⟨(T.put i p).wcells ++ [s], e, 0, true⟩) := by
  unfold storeA
  simp only [hn, gen, c23]
  obtain rfl | rfl | rfl | rfl | rfl | rfl : i = 0 ∨ i = 1 ∨ i = 2 ∨ i = 3 ∨ i = 4 ∨ i = 5 := by omega
  all_goals (rw [if_pos (by simp)]; rfl)
def Tb.setWork (T : Tb) (c : Int) (p : P3) : Tb × Int := if T.bad then (Tb0, 1) else match slotM c with
  | none => (Tb0, 4)
  | some i => if p.far then (Tb0, 11) else (T.put i p, 0)
/-- A table with an error, that can be read. -/
def readTE (x : Tb × Int) (h : Heap) (n : Nat) (r : Value) (h' : Heap) (n' : Nat) : Prop := n ≤ n' ∧ (∀ L, L < n → h' L = h L) ∧ ∃ s', r = .tuple #[x.1.v s', .int .i64 x.2] ∧ FR h' n n' s' (lnCells x.1.ls) x.1.ls.length
theorem FR.none {h : Heap} {n n' : Nat} : FR h n n' (.slice none 0 0) [] 0 := fun _ _ => .nil
theorem w_tSetWork {h : Heap} {s : Value} {T : Tb} (hr : RD h 2 s (lnCells T.ls) T.ls.length) (few : T.ls.length ≤ 1000000000000) (c : Int) (p : P3) (n : Nat) :
    Dm.Spec Tryd.prog 12 [T.v s, .int .i64 c, p.v] h n (readTE (T.setWork c p) h n) := by
  refine Spec.body Tryd.func12 rfl (by kernel_rfl) Tryd.ntmps12 (by rw [Tryd.results12]) (Nat.le_of_ble_eq_true rfl) ?_
  refine Sat.lt fun hlt => ?_
  obtain ⟨Ad, cd, rfl⟩ := hr.len
  refine Sat.sq ?_
  refine Sat.reg (by kernel_rfl) ?_
  simp -dsimp
  generalize hh1 : upd (upd (upd h n _) (n + 1) _) (n + 2) _ = h1
  have hn : h1 n = some ⟨T.wcells ++ [.slice Ad T.ls.length cd], 33, 0, true⟩ := by rw [← hh1]; simp [upd_at]
  have hn1 : h1 (n + 1) = some ⟨p.cells, 23, 0, true⟩ := by rw [← hh1]; simp [upd_at]
  have hn2 : h1 (n + 2) = some ⟨Tb0.wcells ++ [.slice none 0 0], 33, 0, true⟩ := by rw [← hh1]; simp [upd_at]
  have hk : ∀ L, L < n → h1 L = h L := fun L hL => by rw [← hh1, upd_at, upd_at, upd_at, if_neg (by omega), if_neg (by omega), if_neg (by omega)]
  have hr1 : RD h1 2 _ (lnCells T.ls) T.ls.length := hr.mono fun L b hb => by rw [hk L (hlt _ _ hb)]; exact hb
  refine Sat.sq ?_
  refine Sat.sq ?_
  refine Sat.reg (by kernel_rfl) ?_
  simp -dsimp [hn]
  refine (w_tValid hr1 few _).useH ?_
  simp -dsimp
  refine Sat.sq ?_
  refine Sat.reg (by kernel_rfl) ?_
  simp -dsimp
  cases hb : T.bad
  rotate_left
  · have e : T.code = 1 := by simp [Tb.code, hb]
    rw [e]
    refine Sat.cond (t := true) (by rfl) ?_
    refine Sat.sq ?_
    refine Sat.reg (by kernel_rfl) ?_
    simp -dsimp [hn2]
    refine Sat.ret ?_
    try simp -dsimp only [thenH_ret, blockA_ret, thenA_ret]
    rw [show T.setWork c p = (Tb0, 1) by simp [Tb.setWork, hb]]
    exact RetQ.ret (r := .tuple #[Tb0.v (.slice none 0 0), .int .i64 1]) (by simp) ⟨by omega, (by repeat (first | exact keep_refl | assumption | refine keep_upd (by omega) ?_)), _, rfl, FR.none⟩
  have e : T.code = 0 := by simp [Tb.code, hb]
  rw [e]
  refine Sat.cond (t := false) (by rfl) ?_
  refine Sat.skip ?_
  simp -dsimp
  refine Sat.sq ?_
  refine Sat.reg (by kernel_rfl) ?_
  simp -dsimp
  refine (w_tslot ..).useH ?_
  cases hs : slotM c with
  | none =>
    simp -dsimp
    refine Sat.sq ?_
    refine Sat.sq ?_
    refine Sat.reg (by kernel_rfl) ?_
    simp -dsimp
    refine Sat.cond (t := true) (by rfl) ?_
    refine Sat.sq ?_
    refine Sat.reg (by kernel_rfl) ?_
    simp -dsimp [hn2]
    refine Sat.ret ?_
    try simp -dsimp only [thenH_ret, blockA_ret, thenA_ret]
    rw [show T.setWork c p = (Tb0, 4) by simp [Tb.setWork, hb, hs]]
    exact RetQ.ret (r := .tuple #[Tb0.v (.slice none 0 0), .int .i64 4]) (by simp) ⟨by omega, (by repeat (first | exact keep_refl | assumption | refine keep_upd (by omega) ?_)), _, rfl, FR.none⟩
  | some i =>
    have hi := slot_lt hs
    simp -dsimp
    refine Sat.sq ?_
    refine Sat.sq ?_
    refine Sat.reg (by kernel_rfl) ?_
    simp -dsimp
    refine Sat.cond (t := false) (by rfl) ?_
    refine Sat.skip ?_
    simp -dsimp
    refine Sat.sq ?_
    refine Sat.sq ?_
    refine Sat.reg (by kernel_rfl) ?_
    simp -dsimp [hn1]
    refine (w_tfar p).useH ?_
    simp -dsimp
    cases hf : p.far
    rotate_left
    · refine Sat.cond (t := true) (by rfl) ?_
      refine Sat.sq ?_
      refine Sat.reg (by kernel_rfl) ?_
      simp -dsimp [hn2]
      refine Sat.ret ?_
      try simp -dsimp only [thenH_ret, blockA_ret, thenA_ret]
      rw [show T.setWork c p = (Tb0, 11) by simp [Tb.setWork, hb, hs, hf]]
      exact RetQ.ret (r := .tuple #[Tb0.v (.slice none 0 0), .int .i64 11]) (by simp) ⟨by omega, (by repeat (first | exact keep_refl | assumption | refine keep_upd (by omega) ?_)), _, rfl, FR.none⟩
    refine Sat.cond (t := false) (by rfl) ?_
    refine Sat.skip ?_
    simp -dsimp
    refine Sat.sq ?_
    refine Sat.reg (by kernel_rfl) ?_
    simp -dsimp [hn]
    refine (w_tclone hr1 few _).mono ?_
    rintro r h2 n2 ⟨hnn, hsame, s', rfl, hfr⟩
    obtain ⟨A2, c2, rfl⟩ := hfr.rd.len
    simp -dsimp
    generalize hh3 : upd h2 n2 _ = h3
    have d0 : h3 n2 = some ⟨T.wcells ++ [.slice A2 T.ls.length c2], 33, 0, true⟩ := by rw [← hh3]; simp [upd_at]
    have k3 : ∀ L, L < n2 → h3 L = h2 L := fun L hL => by rw [← hh3, upd_at, if_neg (by omega)]
    have d1 : h3 (n + 1) = some ⟨p.cells, 23, 0, true⟩ := by rw [k3 _ (by omega), hsame _ (by omega)]; exact hn1
    have d2 : h3 (n + 2) = some ⟨Tb0.wcells ++ [.slice none 0 0], 33, 0, true⟩ := by rw [k3 _ (by omega), hsame _ (by omega)]; exact hn2
    have hst := store_work d0 hi p
    have hpl := T.put_ls i p
    have hset : T.setWork c p = (T.put i p, 0) := by simp [Tb.setWork, hb, hs, hf]
    generalize T.put i p = U at hst hpl hset
    rw [hset]
    refine Sat.sq ?_
    refine Sat.reg (by kernel_rfl) ?_
    simp -dsimp [d1, show (i : Int) < 6 by omega, ↓hst]
    generalize hh4 : upd h3 n2 _ = h4
    have q0 : h4 n2 = some ⟨U.wcells ++ [.slice A2 T.ls.length c2], 33, 0, true⟩ := by rw [← hh4]; simp [upd_at]
    have k4 : ∀ L, L < n2 → h4 L = h2 L := fun L hL => by rw [← hh4, upd_at, if_neg (by omega)]; exact k3 L hL
    have q2 : h4 (n + 2) = some ⟨Tb0.wcells ++ [.slice none 0 0], 33, 0, true⟩ := by rw [k4 _ (by omega), hsame _ (by omega)]; exact hn2
    refine Sat.sq ?_
    refine Sat.reg (by kernel_rfl) ?_
    simp -dsimp [q0, q2, show ¬ n + 2 = n2 + 1 by omega]
    refine Sat.ret ?_
    try simp -dsimp only [thenH_ret, blockA_ret, thenA_ret]
    refine RetQ.ret (r := .tuple #[U.v (.slice A2 T.ls.length c2), .int .i64 0]) (by simp) ⟨by omega, fun L hL => ?_, _, rfl, ?_⟩
    · rw [upd_at, if_neg (by omega), k4 _ (by omega), hsame _ (by omega)]; exact hk L hL
    · rw [hpl]; exact hfr.mono (by omega) (by omega) fun L h1 h2 => by rw [upd_at, if_neg (by omega), k4 _ (by omega)]

end Go.Proofs.YtocbmekcokenoaaDoor
/- Walks, part B11. -/
set_option maxRecDepth 100000
set_option maxHeartbeats 4000000
set_option linter.unusedSimpArgs false
set_option linter.unusedVariables false
namespace Go.Proofs.YtocbmekcokenoaaDoor
open Go Go.Dm
attribute [local simp ↓] RunS_nil RunS_op RunS_guard RunT_nil RunT_op RunT_guard opS_call opD_call opS_move opD_move opS_assign opD_assign opS_pick opD_pick opS_nilCheck opD_nilCheck opS_fieldAddr opD_fieldAddr opS_indexAddr opD_indexAddr opS_load opD_load opS_store opD_store opS_alloc opD_alloc opS_box opD_box opS_build opD_build opS_buildSlice opD_buildSlice opS_field opD_field opS_extract opD_extract opS_makeFunc opD_makeFunc opS_slice opD_slice opS_binOp opD_binOp opS_unOp opD_unOp opS_convert opD_convert opS_index opD_index opS_len opD_len opS_append opD_append opS_max opD_max opS_min opD_min opS_makeSlice opD_makeSlice opS_makeInterface opD_makeInterface opS_copy opD_copy opS_data opD_data opS_string opD_string opS_cap opD_cap obind_some obind_none thenH_normal thenH_ret thenH_exit blockA_normal blockA_ret blockA_exit thenA_normal thenA_ret thenA_exit dstAt_mk dstL_zero dstL_succ
attribute [local simp] shB undef wantG_bool wantG_undef findO_some calleeS find putA ev closed3 closed2 closed1 closed0 pickA orE_some orE_none binF binXO binX binB strX unF convF convX convB mxF eqNilA fastBin fastUn fastConv intBin argEnv resultsA resultsL resultA notTuple allocs eff
  loadO storeO allocO boxO sliceO sliceX indexO indexXO indexX indexB lenO lenS capX ifaceO indexAddrA loadA storeA newA isAggT nilCheckA lenA evAll evParts aadd gen upd_at upd_upd Value.cells mxV Pairs apart readsS readB labOf putAt fieldA partA extractA makeFuncA evOpt boundOf sliceA isV0 Nat.add_assoc
attribute [local simp] bu23_z bu23_0_1_2 bu27_z bu27_0_1 bu27_0 bu33_z bu33_0 bu48_0_1 bu61_0_1 bs25_0_z bs25_1_0 bs31_0_z bs31_1_0 bs74_1_0 bs82_3_0_1_2
attribute [local simp ↓] eql23 neq23 eql48 neq48 eql61 neq61 eql24 neq24
attribute [local simp] fa23_0 fa23_1 fa23_2 fa48_0 fa48_1 fa61_0 fa61_1 fa33_0 fa33_1 fa27_0 fa27_1
attribute [local simp] c2 b2 z2 c3 b3 z3 c4 b4 z4 c5 b5 z5 c9 b9 z9 c23 b23 z23 h23 g23 c24 b24 z24 c25 b25 z25 c27 b27 z27 h27 g27 c29 b29 z29 c31 b31 z31 c33 b33 z33 h33 g33 c48 b48 z48 h48 g48 c50 b50 z50 c58 b58 z58 c61 b61 z61 h61 g61 Tryd.underlying2 Tryd.underlying3 Tryd.underlying4 Tryd.underlying5 Tryd.underlying9 Tryd.underlying23 Tryd.underlying24 Tryd.underlying25 Tryd.underlying27 Tryd.underlying29 Tryd.underlying31 Tryd.underlying33 Tryd.underlying48 Tryd.underlying50 Tryd.underlying58 Tryd.underlying61
theorem reads2 {h : Heap} {k1 m1 k2 m2 : Nat} {s1 s2 : Value} {c1 c2 : List Value} (hr1 : RD h k1 s1 c1 m1) (hr2 : RD h k2 s2 c2 m2) {g : FuncId} {args : List Value} {r : Value}
    (hs : ∀ h2 n2, RD h2 k1 s1 c1 m1 → RD h2 k2 s2 c2 m2 → Dm.Spec Tryd.prog g args h2 n2 fun r' h' n' => r' = r ∧ h' = h2 ∧ n' = n2) : ∃ F : List Nat, (∀ L ∈ F, (h L).isSome = true) ∧ ∀ h2 n2, (∀ L ∈ F, h2 L = h L) → Dm.Spec Tryd.prog g args h2 n2 fun r' h' n' => r' = r ∧ h' = h2 ∧ n' = n2 := by
  obtain ⟨F1, f1, _, g1⟩ := hr1.agree
  obtain ⟨F2, f2, _, g2⟩ := hr2.agree
  exact ⟨F1 ++ F2, fun L hL => (List.mem_append.1 hL).elim (f1 L) (f2 L), fun h2 n2 hh => hs h2 n2 (g1 h2 fun L hL => hh L (List.mem_append.2 (.inl hL))) (g2 h2 fun L hL => hh L (List.mem_append.2 (.inr hL)))⟩
abbrev u_rSame_6 : List (Nat × Nat) := []
theorem w_rSame {h : Heap} {s1 s2 : Value} {T : Tb} (hr : RD h 2 s1 (lnCells T.ls) T.ls.length) (hq : RD h 2 s2 (lnCells T.ls) T.ls.length) (few : T.ls.length ≤ 1000000000000) (n : Nat) :
    Dm.Spec Tryd.prog 15 [T.v s1, T.v s2] h n fun r' h' n' => r' = .bool true ∧ h' = h ∧ n' = n := by
  refine pureAt Tryd.func15 rfl (by kernel_rfl) Tryd.ntmps15 (by rw [Tryd.results15]) (Nat.le_of_ble_eq_true rfl) ?_
  refine Sat.lt fun hlt => ?_
  obtain ⟨A1, c1, rfl⟩ := hr.len
  obtain ⟨A2, c2, rfl⟩ := hq.len
  refine Sat.sq ?_
  refine Sat.reg (by kernel_rfl) ?_
  simp -dsimp
  generalize hh1 : upd (upd h n _) (n + 1) _ = h1
  have hn : h1 n = some ⟨T.wcells ++ [.slice A1 T.ls.length c1], 27, 0, true⟩ := by rw [← hh1]; simp [upd_at]
  have hn1 : h1 (n + 1) = some ⟨T.wcells ++ [.slice A2 T.ls.length c2], 27, 0, true⟩ := by rw [← hh1]; simp [upd_at]
  have hk : ∀ L, L < n → h1 L = h L := fun L hL => by rw [← hh1, upd_at, upd_at, if_neg (by omega), if_neg (by omega)]
  have hr1 : RD h1 2 _ (lnCells T.ls) T.ls.length := hr.mono fun L b hb => by rw [hk L (hlt _ _ hb)]; exact hb
  have hq1 : RD h1 2 _ (lnCells T.ls) T.ls.length := hq.mono fun L b hb => by rw [hk L (hlt _ _ hb)]; exact hb
  refine Sat.sq ?_
  refine Sat.sq ?_
  refine Sat.reg (by kernel_rfl) ?_
  simp -dsimp [hn, hn1]
  refine Sat.cond (t := false) (by rfl) ?_
  refine Sat.skip ?_
  simp -dsimp
  refine Sat.sq ?_
  refine Sat.sq ?_
  refine Sat.reg (by kernel_rfl) ?_
  simp -dsimp
  refine Sat.block ?_
  refine Sat.loop (ι := Int) (fun i T' h' n' => find T' 2 = some (.pointer (some ⟨n, 0, none⟩)) ∧ find T' 3 = some (.pointer (some ⟨n + 1, 0, none⟩)) ∧ find T' 5 = some (.int .i64 i) ∧ h1 = h' ∧ n + 2 = n' ∧ 0 ≤ i ∧ i ≤ T.ls.length) (fun i => (T.ls.length - i).toNat) 0 ?_ ?_
  · exact ⟨rfl, rfl, rfl, rfl, rfl, by omega, by omega⟩
  · rintro i T' h' n' ⟨t2, t3, t5, rfl, rfl, i0, i1⟩
    refine Sat.sq ?_
    refine Sat.sq ?_
    refine Sat.reg (by kernel_rfl) ?_
    simp -dsimp [t2, t5, hn]
    refine Sat.ite rfl (fun hc => ?_) (fun hc => ?_)
    · have hc : i < T.ls.length := by simpa using hc
      obtain ⟨B, o, sp, b, hB, ap⟩ := hr1.rln i0 hc
      obtain ⟨B2, o2, sp2, b2, hB2, ap2⟩ := hq1.rln i0 hc
      generalize T.ls[i.toNat]! = m at ap ap2
      refine Sat.skip ?_
      simp -dsimp
      refine Sat.sq ?_
      refine Sat.block ?_
      refine Sat.sq ?_
      refine Sat.drw u_rSame_6 mixed (by kernel_rfl) (by kernel_rfl) (by kernel_rfl) (by kernel_rfl) ?_
      simp -dsimp [t2, t3, t5, hn, hn1, -indexAddrA, ap.idx, ↓ap.l, hB, ap2.idx, ↓ap2.l, hB2]
      refine Sat.cond (t := false) (by rfl) ?_
      refine Sat.skip ?_
      simp -dsimp
      have W : IntKind.i64.wrap (i + 1) = i + 1 := wrap_in (by omega) (by omega)
      refine Sat.reg (by kernel_rfl) ?_
      simp -dsimp [t2, t3, t5, W]
      exact ⟨i + 1, ⟨rfl, by omega, by omega⟩, by omega⟩
    · refine Sat.exit ?_
      simp -dsimp
      refine Sat.sq ?_
      refine Sat.reg (by kernel_rfl) ?_
      simp -dsimp
      refine Sat.ret ?_
      try simp -dsimp only [thenH_ret, blockA_ret, thenA_ret]
      exact PureQ.ret (by rfl) hk rfl
abbrev u_lsame_1 : List (Nat × Nat) := [(5, 6)]
theorem w_lsame {h : Heap} {s1 s2 : Value} {T : Tb} (hr : RD h 2 s1 (lnCells T.ls) T.ls.length) (hq : RD h 2 s2 (lnCells T.ls) T.ls.length) (few : T.ls.length ≤ 1000000000000) (e : Int) (n : Nat) :
    Dm.Spec Tryd.prog 14 [T.v s1, .int .i64 e, T.v s2, .int .i64 e] h n fun r' h' n' => r' = .bool true ∧ h' = h ∧ n' = n := by
  refine pureAt Tryd.func14 rfl (by kernel_rfl) Tryd.ntmps14 (by rw [Tryd.results14]) (Nat.le_of_ble_eq_true rfl) ?_
  refine Sat.lt fun hlt => ?_
  obtain ⟨A1, c1, rfl⟩ := hr.len
  obtain ⟨A2, c2, rfl⟩ := hq.len
  refine Sat.sq ?_
  refine Sat.reg (by kernel_rfl) ?_
  simp -dsimp
  generalize hh1 : upd (upd h n _) (n + 1) _ = h1
  have hn : h1 n = some ⟨T.wcells ++ [.slice A1 T.ls.length c1], 33, 0, true⟩ := by rw [← hh1]; simp [upd_at]
  have hn1 : h1 (n + 1) = some ⟨T.wcells ++ [.slice A2 T.ls.length c2], 27, 0, true⟩ := by rw [← hh1]; simp [upd_at]
  have hk : ∀ L, L < n → h1 L = h L := fun L hL => by rw [← hh1, upd_at, upd_at, if_neg (by omega), if_neg (by omega)]
  have hr1 : RD h1 2 _ (lnCells T.ls) T.ls.length := hr.mono fun L b hb => by rw [hk L (hlt _ _ hb)]; exact hb
  have hq1 : RD h1 2 _ (lnCells T.ls) T.ls.length := hq.mono fun L b hb => by rw [hk L (hlt _ _ hb)]; exact hb
  refine Sat.sq ?_
  refine Sat.drw u_lsame_1 mixed (by kernel_rfl) (by kernel_rfl) (by kernel_rfl) (by kernel_rfl) ?_
  simp -dsimp [hn]
  refine callD.heavy _ _ _ (by omega) gc_lt (w_lown hr1 few (n + 2) false) ?_
  obtain ⟨A3, c3, e3⟩ := gcv_val (n + 2) 2 T.ls.length
  have hrt := gc_rd (h := h1) (n := n + 2) (e := 61) (lnCells_length T.ls) false
  have g1 : applyU h1 (gcu (n + 2) 61 (lnCells T.ls) T.ls.length false) (n + 1) = some ⟨T.wcells ++ [.slice A2 T.ls.length c2], 27, 0, true⟩ := by rw [gc_old (by omega)]; exact hn1
  have hq2 : RD (applyU h1 (gcu (n + 2) 61 (lnCells T.ls) T.ls.length false)) 2 (.slice A2 T.ls.length c2) (lnCells T.ls) T.ls.length := hq.mono fun L b hb => by
    have := hlt L b hb
    rw [gc_old (by omega), hk L this]; exact hb
  obtain ⟨F2, f2, r2⟩ := reads2 hrt hq2 (g := 15) (args := [T.v (gcv (n + 2) 2 T.ls.length), T.v (.slice A2 T.ls.length c2)]) (r := .bool true) (fun h2 n2 a b => w_rSame a b few n2)
  rw [e3] at r2 ⊢
  simp -dsimp [g1]
  refine callD.reads _ F2 r2 ?_
  simp -dsimp
  refine ⟨?_, ?_⟩
  · intro a b hab
    have := gc_at _ hab
    omega
  · exact Sat.ret (PureQ.ret rfl (fun L hL => by rw [gc_old (by omega)]; exact hk L hL) (by simp))

end Go.Proofs.YtocbmekcokenoaaDoor
/- Walks, part B12. -/
set_option maxRecDepth 100000
set_option maxHeartbeats 4000000
set_option linter.unusedSimpArgs false
set_option linter.unusedVariables false
namespace Go.Proofs.YtocbmekcokenoaaDoor
open Go Go.Dm
attribute [local simp ↓] RunS_nil RunS_op RunS_guard RunT_nil RunT_op RunT_guard opS_call opD_call opS_move opD_move opS_assign opD_assign opS_pick opD_pick opS_nilCheck opD_nilCheck opS_fieldAddr opD_fieldAddr opS_indexAddr opD_indexAddr opS_load opD_load opS_store opD_store opS_alloc opD_alloc opS_box opD_box opS_build opD_build opS_buildSlice opD_buildSlice opS_field opD_field opS_extract opD_extract opS_makeFunc opD_makeFunc opS_slice opD_slice opS_binOp opD_binOp opS_unOp opD_unOp opS_convert opD_convert opS_index opD_index opS_len opD_len opS_append opD_append opS_max opD_max opS_min opD_min opS_makeSlice opD_makeSlice opS_makeInterface opD_makeInterface opS_copy opD_copy opS_data opD_data opS_string opD_string opS_cap opD_cap obind_some obind_none thenH_normal thenH_ret thenH_exit blockA_normal blockA_ret blockA_exit thenA_normal thenA_ret thenA_exit dstAt_mk dstL_zero dstL_succ
attribute [local simp] shB undef wantG_bool wantG_undef findO_some calleeS find putA ev closed3 closed2 closed1 closed0 pickA orE_some orE_none binF binXO binX binB strX unF convF convX convB mxF eqNilA fastBin fastUn fastConv intBin argEnv resultsA resultsL resultA notTuple allocs eff
  loadO storeO allocO boxO sliceO sliceX indexO indexXO indexX indexB lenO lenS capX ifaceO indexAddrA loadA storeA newA isAggT nilCheckA lenA evAll evParts aadd gen upd_at upd_upd Value.cells mxV Pairs apart readsS readB labOf putAt fieldA partA extractA makeFuncA evOpt boundOf sliceA isV0 Nat.add_assoc
attribute [local simp] bu23_z bu23_0_1_2 bu27_z bu27_0_1 bu27_0 bu33_z bu33_0 bu48_0_1 bu61_0_1 bs25_0_z bs25_1_0 bs31_0_z bs31_1_0 bs74_1_0 bs82_3_0_1_2
attribute [local simp ↓] eql23 neq23 eql48 neq48 eql61 neq61 eql24 neq24
attribute [local simp] fa23_0 fa23_1 fa23_2 fa48_0 fa48_1 fa61_0 fa61_1 fa33_0 fa33_1 fa27_0 fa27_1
attribute [local simp] c2 b2 z2 c3 b3 z3 c4 b4 z4 c5 b5 z5 c9 b9 z9 c23 b23 z23 h23 g23 c24 b24 z24 c25 b25 z25 c27 b27 z27 h27 g27 c29 b29 z29 c31 b31 z31 c33 b33 z33 h33 g33 c48 b48 z48 h48 g48 c50 b50 z50 c58 b58 z58 c61 b61 z61 h61 g61 Tryd.underlying2 Tryd.underlying3 Tryd.underlying4 Tryd.underlying5 Tryd.underlying9 Tryd.underlying23 Tryd.underlying24 Tryd.underlying25 Tryd.underlying27 Tryd.underlying29 Tryd.underlying31 Tryd.underlying33 Tryd.underlying48 Tryd.underlying50 Tryd.underlying58 Tryd.underlying61
abbrev u_rSetWork_9 : List (Nat × Nat) := [(1, 2), (2, 4), (1, 5), (1, 7), (2, 7), (4, 7), (5, 7)]
/-- A new table whose slice is fresh, behind a pointer. -/
def nextTab (T : Tb) (h1 : Heap) (n : Nat) (t : Option Value) (h3 : Heap) (n3 : Nat) : Prop := ∃ A3 c3 L3, t = some (.pointer (some ⟨L3, 0, none⟩)) ∧ n ≤ L3 ∧ L3 < n3 ∧ (∀ L, L < n → h3 L = h1 L) ∧ h3 L3 = some ⟨T.wcells ++ [.slice A3 T.ls.length c3], 27, 0, true⟩ ∧ FR h3 n L3 (.slice A3 T.ls.length c3) (lnCells T.ls) T.ls.length
theorem canon0 {m : LMap} {a : Addr} {c : Nat} {s' : Value} (h : VR0 m (.slice (some a) 0 c) s') : VR0 m (.slice (some ⟨0, 0, none⟩) 0 c) s' := by
  cases h with
  | closed h => simp [closed0] at h
  | slice a1 a2 => omega
  | empty h1 h2 => exact .empty h1 h2
/-- An empty slice's place is all one. -/
theorem canonTab {g : FuncId} {T : Tb} {a : Addr} {c : Nat} {rest : List Value} {h : Heap} {n : Nat} {Q : Value → Heap → Nat → Prop} (hs : Dm.Spec Tryd.prog g (T.v (.slice (some ⟨0, 0, none⟩) 0 c) :: rest) h n Q) : Dm.Spec Tryd.prog g (T.v (.slice (some a) 0 c) :: rest) h n Q := by
  refine ⟨fun m w args' ha H hd => ?_⟩
  cases ha with | @cons _ y _ bs h1 h2 =>
  obtain ⟨s', hs1, hup⟩ := carries_tab T m _ _ ⟨_, _, _, rfl⟩ h1
  exact hs.run m w _ (.cons (hup m _ (canon0 hs1)) h2) H hd
theorem w_rSetWork_raw {h : Heap} {s : Value} {T : Tb} (hr : RD h 2 s (lnCells T.ls) T.ls.length) (few : T.ls.length ≤ 1000000000000) (hz : ∀ a k c, s = .slice (some a) k c → k = 0 → a.block = 0) (c : Int) (p : P3) (n : Nat) :
    Dm.Spec Tryd.prog 13 [T.v s, .int .i64 c, p.v] h n (readTE (T.setWork c p) h n) := by
  refine Spec.body Tryd.func13 rfl (by kernel_rfl) Tryd.ntmps13 (by rw [Tryd.results13]) (Nat.le_of_ble_eq_true rfl) ?_
  refine Sat.lt fun hlt => ?_
  obtain ⟨Ad, cd, rfl⟩ := hr.len
  refine Sat.sq ?_
  refine Sat.reg (by kernel_rfl) ?_
  simp -dsimp
  generalize hh1 : upd (upd (upd h n _) (n + 1) _) (n + 2) _ = h1
  have hn : h1 n = some ⟨T.wcells ++ [.slice Ad T.ls.length cd], 27, 0, true⟩ := by rw [← hh1]; simp [upd_at]
  have hn1 : h1 (n + 1) = some ⟨p.cells, 23, 0, true⟩ := by rw [← hh1]; simp [upd_at]
  have hn2 : h1 (n + 2) = some ⟨Tb0.wcells ++ [.slice none 0 0], 27, 0, true⟩ := by rw [← hh1]; simp [upd_at]
  have hk : ∀ L, L < n → h1 L = h L := fun L hL => by rw [← hh1, upd_at, upd_at, upd_at, if_neg (by omega), if_neg (by omega), if_neg (by omega)]
  have hlt1 : ∀ L b, h1 L = some b → L < n + 3 := fun L b hb => by
    rw [← hh1] at hb
    simp only [upd_at] at hb
    split at hb
    · omega
    · split at hb
      · omega
      · split at hb
        · omega
        · have := hlt _ _ hb; omega
  have hr1 : RD h1 2 _ (lnCells T.ls) T.ls.length := hr.mono fun L b hb => by rw [hk L (hlt _ _ hb)]; exact hb
  refine Sat.sq ?_
  refine Sat.sq ?_
  refine Sat.reg (by kernel_rfl) ?_
  simp -dsimp [hn]
  refine (w_rValid hr1 few _).useH ?_
  simp -dsimp
  refine Sat.sq ?_
  refine Sat.reg (by kernel_rfl) ?_
  simp -dsimp
  cases hb : T.bad
  rotate_left
  · have e : T.code = 1 := by simp [Tb.code, hb]
    rw [e]
    refine Sat.cond (t := true) (by rfl) ?_
    refine Sat.sq ?_
    refine Sat.reg (by kernel_rfl) ?_
    simp -dsimp [hn2]
    refine Sat.ret ?_
    try simp -dsimp only [thenH_ret, blockA_ret, thenA_ret]
    rw [show T.setWork c p = (Tb0, 1) by simp [Tb.setWork, hb]]
    exact RetQ.ret (r := .tuple #[Tb0.v (.slice none 0 0), .int .i64 1]) (by simp) ⟨by omega, (by repeat (first | exact keep_refl | assumption | refine keep_upd (by omega) ?_)), _, rfl, FR.none⟩
  have e : T.code = 0 := by simp [Tb.code, hb]
  rw [e]
  refine Sat.cond (t := false) (by rfl) ?_
  refine Sat.skip ?_
  simp -dsimp
  refine Sat.sq ?_
  refine Sat.reg (by kernel_rfl) ?_
  simp -dsimp
  refine (w_rindex ..).useH ?_
  cases hs : slotM c with
  | none =>
    simp -dsimp
    refine Sat.sq ?_
    refine Sat.sq ?_
    refine Sat.reg (by kernel_rfl) ?_
    simp -dsimp
    refine Sat.cond (t := true) (by rfl) ?_
    refine Sat.sq ?_
    refine Sat.reg (by kernel_rfl) ?_
    simp -dsimp [hn2]
    refine Sat.ret ?_
    try simp -dsimp only [thenH_ret, blockA_ret, thenA_ret]
    rw [show T.setWork c p = (Tb0, 4) by simp [Tb.setWork, hb, hs]]
    exact RetQ.ret (r := .tuple #[Tb0.v (.slice none 0 0), .int .i64 4]) (by simp) ⟨by omega, (by repeat (first | exact keep_refl | assumption | refine keep_upd (by omega) ?_)), _, rfl, FR.none⟩
  | some i =>
    have hi := slot_lt hs
    simp -dsimp
    refine Sat.sq ?_
    refine Sat.sq ?_
    refine Sat.reg (by kernel_rfl) ?_
    simp -dsimp
    refine Sat.ite rfl (fun hc => absurd hc (by simp)) (fun hc => ?_)
    refine Sat.skip ?_
    simp -dsimp
    refine Sat.sq ?_
    refine Sat.sq ?_
    refine Sat.reg (by kernel_rfl) ?_
    simp -dsimp [hn1]
    refine (w_rout p).useH ?_
    simp -dsimp
    cases hf : p.far
    rotate_left
    · refine Sat.cond (t := true) (by rfl) ?_
      refine Sat.sq ?_
      refine Sat.reg (by kernel_rfl) ?_
      simp -dsimp [hn2]
      refine Sat.ret ?_
      try simp -dsimp only [thenH_ret, blockA_ret, thenA_ret]
      rw [show T.setWork c p = (Tb0, 11) by simp [Tb.setWork, hb, hs, hf]]
      exact RetQ.ret (r := .tuple #[Tb0.v (.slice none 0 0), .int .i64 11]) (by simp) ⟨by omega, (by repeat (first | exact keep_refl | assumption | refine keep_upd (by omega) ?_)), _, rfl, FR.none⟩
    refine Sat.cond (t := false) (by rfl) ?_
    refine Sat.skip ?_
    simp -dsimp
    have hpl := T.put_ls i p
    have hset : T.setWork c p = (T.put i p, 0) := by simp [Tb.setWork, hb, hs, hf]
    have hst := fun (h4 : Heap) (n2 : Nat) (s : Value) (d0 : h4 n2 = some ⟨T.wcells ++ [s], 27, 0, true⟩) => store_work d0 hi p
    generalize T.put i p = U at hst hpl hset
    rw [hset]
    have hlc := lnCells_length T.ls
    refine Sat.join (fun T2 h3 n3 => find T2 5 = some (.pointer (some ⟨n + 1, 0, none⟩)) ∧ find T2 6 = some (.pointer (some ⟨n + 2, 0, none⟩)) ∧ find T2 9 = some (.int .i64 i) ∧ nextTab T h1 (n + 3) (find T2 10) h3 n3) ?_ ?_
    · refine Sat.drw u_rSetWork_9 mixed (by kernel_rfl) (by kernel_rfl) (by kernel_rfl) (by kernel_rfl) ?_
      by_cases hm0 : T.ls.length = 0
      · have hl0 : T.ls = [] := List.eq_nil_of_length_eq_zero hm0
        have hn' : h1 n = some ⟨T.wcells ++ [.slice Ad 0 cd], 27, 0, true⟩ := by rw [hm0] at hn; exact hn
        simp -dsimp [hn', appendA]
        refine ⟨?_, ?_⟩
        · cases Ad with
          | none => simp
          | some a => have := hz a _ _ rfl hm0; simp [this]
        · refine ⟨some ⟨n + 3, 0, none⟩, 1, n + 4, rfl, by omega, by omega, fun L hL => by rw [upd_at, upd_at, if_neg (by omega), if_neg (by omega)], by rw [upd_at, if_pos rfl, hm0]; rfl, fun _ _ => ?_⟩
          rw [hm0, hl0]
          exact ⟨rfl, _, _, rfl, (fun h => nomatch h), fun h => absurd h (by omega)⟩
      · have hr3 : RD (upd h1 (n + 3) ⟨[], 61, 0, true⟩) 2 (.slice Ad T.ls.length cd) (lnCells T.ls) T.ls.length := hr1.mono fun L b hb => by
          rw [upd_at, if_neg (by have := hlt1 _ _ hb; omega)]; exact hb
        have hx := hr3.cells (P := Tryd.prog)
        have ha : appendA Tryd.prog (upd h1 (n + 3) ⟨[], 61, 0, true⟩) 25 (.slice (some ⟨n + 3, 0, none⟩) 0 1) (.slice Ad T.ls.length cd) (n + 4) = some (.slice (some ⟨n + 4, 0, none⟩) T.ls.length 4, some (n + 4, ⟨lnCells T.ls, 61, 0, true⟩)) := by
          unfold appendA
          simp only [Tryd.underlying25, c61, if_pos (show 0 < 2 by omega), if_neg hm0, hx, z61, b61]
          have e0 : sliceCells Tryd.prog (upd h1 (n + 3) ⟨[], 61, 0, true⟩) 2 (.slice (some ⟨n + 3, 0, none⟩) 0 1) = some [] := by simp [sliceCells]
          rw [e0]
          simp
          omega
        simp -dsimp [hn, ha]
        refine ⟨?_, ?_⟩
        · cases Ad with
          | none => simp
          | some a =>
            obtain ⟨a', c', b', e1, e2, _⟩ := hr.at (i := 0) (by omega)
            cases e1
            have := hlt _ _ e2
            simp; omega
        · refine ⟨some ⟨n + 4, 0, none⟩, 4, n + 5, rfl, by omega, by omega, fun L hL => by rw [upd_at, upd_at, upd_at, if_neg (by omega), if_neg (by omega), if_neg (by omega)], by rw [upd_at, if_pos rfl]; rfl, fun h2 hh => ?_⟩
          refine ⟨hlc, _, _, rfl, (fun h => nomatch h), fun _ => ⟨_, ⟨lnCells T.ls, 61, 0, true⟩, rfl, (hh (n + 4) (by omega) (by omega)).trans (by rw [upd_at, if_neg (by omega), upd_at, if_pos rfl]), rfl, by simp only; omega, ?_⟩⟩
          simp only [List.drop_zero]; rw [← hlc]; exact List.take_length
    rintro T2 h3 n3 ⟨t5, t6, t9, hJ⟩
    obtain ⟨A3, c3, L3, t10, l1, l2, k3, d0, hfr⟩ := hJ
    have d1 : h3 (n + 1) = some ⟨p.cells, 23, 0, true⟩ := by rw [k3 _ (by omega)]; exact hn1
    have d2 : h3 (n + 2) = some ⟨Tb0.wcells ++ [.slice none 0 0], 27, 0, true⟩ := by rw [k3 _ (by omega)]; exact hn2
    have hst := hst _ _ _ d0
    refine Sat.sq ?_
    refine Sat.reg (by kernel_rfl) ?_
    simp -dsimp [t5, t9, t10, d1, show (i : Int) < 6 by omega, ↓hst]
    have hL3 : ¬ L3 = n3 := by omega
    simp -dsimp only [hL3, if_false]
    generalize hh4 : upd h3 L3 _ = h4
    have q0 : h4 L3 = some ⟨U.wcells ++ [.slice A3 T.ls.length c3], 27, 0, true⟩ := by rw [← hh4]; simp [upd_at]
    have k4 : ∀ L, L ≠ L3 → h4 L = h3 L := fun L hL => by rw [← hh4, upd_at, if_neg hL]
    have q2 : h4 (n + 2) = some ⟨Tb0.wcells ++ [.slice none 0 0], 27, 0, true⟩ := by rw [k4 _ (by omega)]; exact d2
    refine Sat.sq ?_
    refine Sat.reg (by kernel_rfl) ?_
    simp -dsimp [t6, t10, q0, q2, show ¬ n + 2 = n3 by omega]
    refine Sat.ret ?_
    try simp -dsimp only [thenH_ret, blockA_ret, thenA_ret]
    refine RetQ.ret (r := .tuple #[U.v (.slice A3 T.ls.length c3), .int .i64 0]) (by simp [t6]) ⟨by omega, fun L hL => ?_, _, rfl, ?_⟩
    · rw [upd_at, if_neg (by omega), k4 _ (by omega), k3 _ (by omega)]; exact hk L hL
    · rw [hpl]; exact hfr.mono (by omega) (by omega) fun L h1 h2 => by rw [upd_at, if_neg (by omega), k4 _ (by omega)]
theorem w_rSetWork {h : Heap} {s : Value} {T : Tb} (hr : RD h 2 s (lnCells T.ls) T.ls.length) (few : T.ls.length ≤ 1000000000000) (c : Int) (p : P3) (n : Nat) :
    Dm.Spec Tryd.prog 13 [T.v s, .int .i64 c, p.v] h n (readTE (T.setWork c p) h n) := by
  obtain ⟨A, cc, rfl⟩ := hr.len
  by_cases hm : T.ls.length = 0
  · cases A with
    | none => exact w_rSetWork_raw hr few (fun a k c h => nomatch h) c p n
    | some a =>
      rw [hm]
      refine canonTab ?_
      have hr2 : RD h 2 (.slice (some ⟨0, 0, none⟩) 0 cc) (lnCells T.ls) T.ls.length := by
        obtain ⟨h1, _⟩ := hr
        refine ⟨h1, some ⟨0, 0, none⟩, cc, by rw [hm], (fun h => nomatch h), fun h => absurd h (by omega)⟩
      exact w_rSetWork_raw hr2 few (fun a k c h _ => by cases h; rfl) c p n
  · exact w_rSetWork_raw hr few (fun a k c h h0 => by cases h; exact absurd h0 hm) c p n

end Go.Proofs.YtocbmekcokenoaaDoor
/- Walks, part L5. -/
set_option maxRecDepth 100000
set_option maxHeartbeats 4000000
set_option linter.unusedSimpArgs false
set_option linter.unusedVariables false
namespace Go.Proofs.YtocbmekcokenoaaDoor
open Go Go.Dm
attribute [local simp ↓] RunS_nil RunS_op RunS_guard RunT_nil RunT_op RunT_guard opS_call opD_call opS_move opD_move opS_assign opD_assign opS_pick opD_pick opS_nilCheck opD_nilCheck opS_fieldAddr opD_fieldAddr opS_indexAddr opD_indexAddr opS_load opD_load opS_store opD_store opS_alloc opD_alloc opS_box opD_box opS_build opD_build opS_buildSlice opD_buildSlice opS_field opD_field opS_extract opD_extract opS_makeFunc opD_makeFunc opS_slice opD_slice opS_binOp opD_binOp opS_unOp opD_unOp opS_convert opD_convert opS_index opD_index opS_len opD_len opS_append opD_append opS_max opD_max opS_min opD_min opS_makeSlice opD_makeSlice opS_makeInterface opD_makeInterface opS_copy opD_copy opS_data opD_data opS_string opD_string opS_cap opD_cap obind_some obind_none thenH_normal thenH_ret thenH_exit blockA_normal blockA_ret blockA_exit thenA_normal thenA_ret thenA_exit dstAt_mk dstL_zero dstL_succ
attribute [local simp] shB undef wantG_bool wantG_undef findO_some calleeS find putA ev closed3 closed2 closed1 closed0 pickA orE_some orE_none binF binXO binX binB strX unF convF convX convB mxF eqNilA fastBin fastUn fastConv intBin argEnv resultsA resultsL resultA notTuple allocs eff
  loadO storeO allocO boxO sliceO sliceX indexO indexXO indexX indexB lenO lenS capX ifaceO indexAddrA loadA storeA newA isAggT nilCheckA lenA evAll evParts aadd gen upd_at upd_upd Value.cells mxV Pairs apart readsS readB labOf putAt fieldA partA extractA makeFuncA evOpt boundOf sliceA isV0 Nat.add_assoc
attribute [local simp] bu23_z bu23_0_1_2 bu27_z bu27_0_1 bu27_0 bu33_z bu33_0 bu48_0_1 bu61_0_1 bs25_0_z bs25_1_0 bs31_0_z bs31_1_0 bs74_1_0 bs82_3_0_1_2
attribute [local simp ↓] eql23 neq23 eql48 neq48 eql61 neq61 eql24 neq24
attribute [local simp] fa23_0 fa23_1 fa23_2 fa48_0 fa48_1 fa61_0 fa61_1 fa33_0 fa33_1 fa27_0 fa27_1
attribute [local simp] c2 b2 z2 c3 b3 z3 c4 b4 z4 c5 b5 z5 c9 b9 z9 c23 b23 z23 h23 g23 c24 b24 z24 c25 b25 z25 c27 b27 z27 h27 g27 c29 b29 z29 c31 b31 z31 c33 b33 z33 h33 g33 c48 b48 z48 h48 g48 c50 b50 z50 c58 b58 z58 c61 b61 z61 h61 g61 Tryd.underlying2 Tryd.underlying3 Tryd.underlying4 Tryd.underlying5 Tryd.underlying9 Tryd.underlying23 Tryd.underlying24 Tryd.underlying25 Tryd.underlying27 Tryd.underlying29 Tryd.underlying31 Tryd.underlying33 Tryd.underlying48 Tryd.underlying50 Tryd.underlying58 Tryd.underlying61
theorem RD.keep {h h' : Heap} {k m N : Nat} {s : Value} {cells : List Value} (hr : RD h k s cells m) (hlt : ∀ L b, h L = some b → L < N) (hs : ∀ L, L < N → h' L = h L) : RD h' k s cells m := hr.mono fun L b hb => by rw [hs L (hlt L b hb)]; exact hb
theorem setWork_len (T : Tb) (c : Int) (p : P3) : (T.setWork c p).1.ls.length ≤ T.ls.length := by
  unfold Tb.setWork
  split
  · simp
  · split
    · simp
    · split
      · simp
      · simp [Tb.put_ls]
abbrev u_lTableSetWork_6 : List (Nat × Nat) := [(7, 8)]
theorem w_lTableSetWork {h : Heap} {s : Value} {T : Tb} (hr : RD h 2 s (lnCells T.ls) T.ls.length) (c : Int) (p : P3) (n : Nat) :
    Dm.Spec Tryd.prog 4 [T.v s, .int .i64 c, p.v] h n fun r' h' n' => r' = .bool true ∧ h' = h ∧ n' = n := by
  refine pureAt Tryd.func4 rfl (by kernel_rfl) Tryd.ntmps4 (by rw [Tryd.results4]) (Nat.le_of_ble_eq_true rfl) ?_
  refine Sat.lt fun hlt => ?_
  obtain ⟨Ad, cd, rfl⟩ := hr.len
  refine Sat.sq ?_
  refine Sat.reg (by kernel_rfl) ?_
  simp -dsimp
  generalize hh1 : upd (upd h n _) (n + 1) _ = h1
  have hn : h1 n = some ⟨T.wcells ++ [.slice Ad T.ls.length cd], 27, 0, true⟩ := by rw [← hh1]; simp [upd_at]
  have hn1 : h1 (n + 1) = some ⟨p.cells, 23, 0, true⟩ := by rw [← hh1]; simp [upd_at]
  have hk : ∀ L, L < n → h1 L = h L := fun L hL => by rw [← hh1, upd_at, upd_at, if_neg (by omega), if_neg (by omega)]
  have hr1 : RD h1 2 _ (lnCells T.ls) T.ls.length := hr.mono fun L b hb => by rw [hk L (hlt _ _ hb)]; exact hb
  refine Sat.sq ?_
  refine Sat.sq ?_
  refine Sat.reg (by kernel_rfl) ?_
  simp -dsimp
  refine w8.useH ?_
  simp -dsimp [hn]
  refine Sat.ite rfl (fun hc => ?_) (fun hc => ?_)
  · refine Sat.sq ?_
    refine Sat.reg (by kernel_rfl) ?_
    simp -dsimp
    refine w8.useH ?_
    simp -dsimp
    exact Sat.ret (PureQ.ret rfl hk rfl)
  have few : T.ls.length ≤ 40 := by
    have : ¬ (40 : Int) < T.ls.length := by simpa using hc
    omega
  refine Sat.skip ?_
  simp -dsimp
  refine Sat.sq ?_
  refine Sat.reg (by kernel_rfl) ?_
  simp -dsimp [hn]
  refine (w_ltheirs_raw hr1 (by omega) (n + 2)).mono ?_
  rintro r h2 n2 ⟨hnn, hsame, s', rfl, hg⟩
  obtain ⟨A2, c2, rfl⟩ := hg.val
  simp -dsimp
  generalize hh3 : upd h2 n2 _ = h3
  refine Sat.lt fun hlt3 => ?_
  have k3 : ∀ L, L < n2 → h3 L = h2 L := fun L hL => by rw [← hh3, upd_at, if_neg (by omega)]
  have a3 : h3 n2 = some ⟨T.wcells ++ [.slice A2 T.ls.length c2], 33, 0, true⟩ := by rw [← hh3]; simp [upd_at]
  have a0 : h3 n = some ⟨T.wcells ++ [.slice Ad T.ls.length cd], 27, 0, true⟩ := by rw [k3 _ (by omega), hsame _ (by omega)]; exact hn
  have a1 : h3 (n + 1) = some ⟨p.cells, 23, 0, true⟩ := by rw [k3 _ (by omega), hsame _ (by omega)]; exact hn1
  have kk : ∀ L, L < n → h3 L = h L := fun L hL => by rw [k3 _ (by omega), hsame _ (by omega)]; exact hk L hL
  have r3 : RD h3 2 (.slice Ad T.ls.length cd) (lnCells T.ls) T.ls.length := hr.keep hlt kk
  have g3 : RD h3 2 (.slice A2 T.ls.length c2) (lnCells T.ls) T.ls.length := gs_rd (hg.frame (fun L h1 h2 => k3 L h2) (Nat.le_refl _))
  refine Sat.sq ?_
  refine Sat.reg (by kernel_rfl) ?_
  simp -dsimp [a0, a1, a3]
  refine (w_tSetWork g3 (by omega) c p _).mono ?_
  rintro r h4 n4 ⟨hn4, hs4, sa, rfl, fa⟩
  have hfew := setWork_len T c p
  obtain ⟨Aa, ca, rfl⟩ := fa.rd.len
  simp -dsimp
  generalize hh5 : upd h4 n4 _ = h5
  refine Sat.lt fun hlt5 => ?_
  have k5 : ∀ L, L < n4 → h5 L = h4 L := fun L hL => by rw [← hh5, upd_at, if_neg (by omega)]
  have k53 : ∀ L, L < n2 + 1 → h5 L = h3 L := fun L hL => by rw [k5 _ (by omega)]; exact hs4 L hL
  have b5 : h5 n4 = some ⟨(T.setWork c p).1.wcells ++ [.slice Aa (T.setWork c p).1.ls.length ca], 33, 0, true⟩ := by rw [← hh5]; simp [upd_at]
  have b0 := (k53 n (by omega)).trans a0
  have b1 := (k53 (n + 1) (by omega)).trans a1
  have b3 := (k53 n2 (by omega)).trans a3
  have fa5 := (fa.mono (h2 := h5) (Nat.le_refl _) (Nat.le_refl _) fun L h1 h2 => k5 L h2).rd
  have r5 := r3.keep hlt3 k53
  have g5 := g3.keep hlt3 k53
  refine Sat.sq ?_
  refine Sat.reg (by kernel_rfl) ?_
  simp -dsimp [b0, b1]
  refine (w_rSetWork r5 (by omega) c p _).mono ?_
  rintro r h6 n6 ⟨hn6, hs6, sb, rfl, fb⟩
  obtain ⟨Ab, cb, rfl⟩ := fb.rd.len
  simp -dsimp
  generalize hh7 : upd h6 n6 _ = h7
  refine Sat.lt fun hlt7 => ?_
  have k7 : ∀ L, L < n6 → h7 L = h6 L := fun L hL => by rw [← hh7, upd_at, if_neg (by omega)]
  have k75 : ∀ L, L < n4 + 1 → h7 L = h5 L := fun L hL => by rw [k7 _ (by omega)]; exact hs6 L hL
  have d7 : h7 n6 = some ⟨(T.setWork c p).1.wcells ++ [.slice Ab (T.setWork c p).1.ls.length cb], 27, 0, true⟩ := by rw [← hh7]; simp [upd_at]
  have d0 := (k75 n (by omega)).trans b0
  have d3 := (k75 n2 (by omega)).trans b3
  have d5 := (k75 n4 (by omega)).trans b5
  have fb7 := (fb.mono (h2 := h7) (Nat.le_refl _) (Nat.le_refl _) fun L h1 h2 => k7 L h2).rd
  have fa7 := fa5.keep hlt5 k75
  have r7 := r5.keep hlt5 k75
  have g7 := g5.keep hlt5 k75
  generalize T.setWork c p = X at *
  obtain ⟨U, e⟩ := X
  dsimp only at *
  refine Sat.sq ?_
  refine Sat.drw u_lTableSetWork_6 mixed (by kernel_rfl) (by kernel_rfl) (by kernel_rfl) (by kernel_rfl) ?_
  simp -dsimp [d0, d3, d5, d7]
  obtain ⟨F1, f1, q1⟩ := reads2 fa7 fb7 (g := 14) (args := [U.v (.slice Aa U.ls.length ca), .int .i64 e, U.v (.slice Ab U.ls.length cb), .int .i64 e]) (r := .bool true) (fun h2 n2 a b => w_lsame a b (by omega) e n2)
  refine callD.reads _ F1 q1 ?_
  simp -dsimp [d0, d3, d5, d7]
  refine callD.heavy _ _ _ (by omega) gc_lt (w_lown g7 (by omega) (n6 + 1) false) ?_
  obtain ⟨A3, c3, e3⟩ := gcv_val (n6 + 1) 2 T.ls.length
  have hrt := gc_rd (h := h7) (n := n6 + 1) (e := 61) (lnCells_length T.ls) false
  have d0' : applyU h7 (gcu (n6 + 1) 61 (lnCells T.ls) T.ls.length false) n = some ⟨T.wcells ++ [.slice Ad T.ls.length cd], 27, 0, true⟩ := by rw [gc_old (by omega)]; exact d0
  have hq2 := r7.keep hlt7 (h' := applyU h7 (gcu (n6 + 1) 61 (lnCells T.ls) T.ls.length false)) fun L hL => gc_old hL
  obtain ⟨F2, f2, q2⟩ := reads2 hrt hq2 (g := 15) (args := [T.v (gcv (n6 + 1) 2 T.ls.length), T.v (.slice Ad T.ls.length cd)]) (r := .bool true) (fun h2 n2 a b => w_rSame a b (by omega) n2)
  rw [e3] at q2 ⊢
  simp -dsimp [d0']
  refine callD.reads _ F2 q2 ?_
  simp -dsimp
  refine ⟨?_, ?_⟩
  · intro a b hab
    have := gc_at _ hab
    omega
  · exact Sat.ret (PureQ.ret rfl (fun L hL => by rw [gc_old (by omega), k75 _ (by omega), k53 _ (by omega)]; exact kk L hL) (by simp))

end Go.Proofs.YtocbmekcokenoaaDoor
