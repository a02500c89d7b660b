/- TableSetWork returns true for every input, and leaves its arguments as they were; its package-level variables tied to the program's text. -/
import Derived.Test.YtocbmekcokenoaaDoorG6
import Derived.Test.YtocbmekcokenoaaDoorG9
import Derived.Test.YtocbmekcokenoaaDoorCards
import Derived.Test.YtocbmekcokenoaaDoorTie
set_option maxRecDepth 100000
set_option maxHeartbeats 4000000
set_option linter.unusedSimpArgs false
set_option linter.unusedVariables false
namespace Go.Proofs.YtocbmekcokenoaaDoor
open Go Go.Dm
attribute [local simp ↓] RunS_nil RunS_op RunS_guard RunT_nil RunT_op RunT_guard opS_call opD_call opS_move opD_move opS_assign opD_assign opS_pick opD_pick opS_nilCheck opD_nilCheck opS_fieldAddr opD_fieldAddr opS_indexAddr opD_indexAddr opS_load opD_load opS_store opD_store opS_alloc opD_alloc opS_box opD_box opS_build opD_build opS_buildSlice opD_buildSlice opS_field opD_field opS_extract opD_extract opS_makeFunc opD_makeFunc opS_slice opD_slice opS_binOp opD_binOp opS_unOp opD_unOp opS_convert opD_convert opS_index opD_index opS_len opD_len opS_append opD_append opS_max opD_max opS_min opD_min opS_makeSlice opD_makeSlice opS_makeInterface opD_makeInterface opS_copy opD_copy opS_data opD_data opS_string opD_string opS_cap opD_cap obind_some obind_none thenH_normal thenH_ret thenH_exit blockA_normal blockA_ret blockA_exit thenA_normal thenA_ret thenA_exit dstAt_mk dstL_zero dstL_succ
attribute [local simp] shB undef wantG_bool wantG_undef findO_some calleeS find putA ev closed3 closed2 closed1 closed0 pickA orE_some orE_none binF binXO binX binB strX unF convF convX convB mxF eqNilA fastBin fastUn fastConv intBin argEnv resultsA resultsL resultA notTuple allocs eff
  loadO storeO allocO boxO sliceO sliceX indexO indexXO indexX indexB lenO lenS capX ifaceO indexAddrA loadA storeA newA isAggT nilCheckA lenA evAll evParts aadd gen upd_at upd_upd Value.cells mxV Pairs apart readsS readB labOf putAt fieldA partA extractA makeFuncA evOpt boundOf sliceA isV0 Nat.add_assoc
attribute [local simp] bu23_z bu23_0_1_2 bu27_z bu27_0_1 bu27_0 bu33_z bu33_0 bu48_0_1 bu61_0_1 bs25_0_z bs25_1_0 bs31_0_z bs31_1_0 bs74_1_0 bs82_3_0_1_2
attribute [local simp ↓] eql23 neq23 eql48 neq48 eql61 neq61 eql24 neq24
attribute [local simp] fa23_0 fa23_1 fa23_2 fa48_0 fa48_1 fa61_0 fa61_1 fa33_0 fa33_1 fa27_0 fa27_1
attribute [local simp] c2 b2 z2 c3 b3 z3 c4 b4 z4 c5 b5 z5 c9 b9 z9 c23 b23 z23 h23 g23 c24 b24 z24 c25 b25 z25 c27 b27 z27 h27 g27 c29 b29 z29 c31 b31 z31 c33 b33 z33 h33 g33 c48 b48 z48 h48 g48 c50 b50 z50 c58 b58 z58 c61 b61 z61 h61 g61 Tryd.underlying2 Tryd.underlying3 Tryd.underlying4 Tryd.underlying5 Tryd.underlying9 Tryd.underlying23 Tryd.underlying24 Tryd.underlying25 Tryd.underlying27 Tryd.underlying29 Tryd.underlying31 Tryd.underlying33 Tryd.underlying48 Tryd.underlying50 Tryd.underlying58 Tryd.underlying61
open Go.ChangeShapes Go.WideShapes Go.ChangeAt Go.RowKit
theorem w_law_TableSetWork {W : World} {h : Heap} {m : LMap} {n : Nat} (E : Ent h m n W) {T : Tb} {lv v : Value} (hr : RD h 2 lv (lnCells T.ls) T.ls.length) (hwk : ∀ p ∈ T.work, p.Fit) (hls : ∀ e ∈ T.ls, e.Fit) (hv : VR3 m (T.v lv) v) {x1 : Int} (f1 : i64 x1) {q2 : P3} (f2 : q2.Fit) :
    Calls Tryd.prog 4 #[v, .int .i64 x1, q2.v] W fun e w' => e = .returned (.bool true) ∧ RowKit.Below W.heap.size W w' :=
  Spec.law E (((w_lTableSetWork hr _ _ n) : Dm.Spec Tryd.prog 4 [T.v lv, .int .i64 x1, q2.v] h n _).mono fun _ _ _ h => h.1) ⟨_, Tryd.func4, by kernel_rfl, by kernel_rfl⟩ (args := [v, .int .i64 x1, q2.v]) (.cons hv (.cons (VR3.refl rfl) (.cons (VR3.refl rfl) (.nil))))
theorem lifted_TableSetWork (os : Os) (started : os.Started) (H : Type) (enc : TypeId × Value → H) :
    ReturnsInHanded {} Tryd.checked os 4 .any (fun w args => (Rows.tableSetWorkSpec.pre enc Tryd.prog Tryd.f4 Rows.tableSetWorkRow.domain false w args ∧ laidMetH Tryd.prog Rows.tableSetWorkRow.laid w) ∧ sizedMet enc Tryd.prog Tryd.f4 (OpenSpec.ofChange Rows.tableSetWorkSpec) false w args)
      (Rows.tableSetWorkSpec.post enc Tryd.prog Tryd.f4 false true false false) := by
  refine returnsInHanded_of_change_and_shaped (C := Tryd.checked) (X := fun w _ => laidMetH Tryd.prog Rows.tableSetWorkRow.laid w) (fun _ _ _ hh h => h.of_heap hh) own started (by kernel_rfl) Tryd.func4
    (ChangeSpec.witness_at (enc := enc) (C := Tryd.checked) (os := os) (X := fun w _ => laidMetH Tryd.prog Rows.tableSetWorkRow.laid w) false (laidWorld [(0, Rows.laid_internal_strconv_uint64pow10), (1, Rows.laid_math_bits_deBruijn32tab), (2, Rows.laid_math_bits_deBruijn64tab), (3, Rows.laid_unicode_utf8_first), (4, Rows.laid_unicode_utf8_acceptRanges)] os)
      #[Tb.v ⟨⟨0,0,0⟩,⟨0,0,0⟩,⟨0,0,0⟩,⟨0,0,0⟩,⟨0,0,0⟩,⟨0,0,0⟩,[]⟩ (.slice none 0 0), .int .i64 0, P3.v ⟨0,0,0⟩] 8 rfl (by kernel_rfl) (by kernel_rfl) (by kernel_rfl) (by kernel_rfl) (by kernel_rfl)
      (laidMetH_of_parts (laidMet_of_run' 8 (by kernel_rfl) (by kernel_rfl)) (by kernel_rfl))) ?_
  intro W base args ds gs before hval0 hW hL hS
  have hval : ∀ (j : Nat) t v, Tryd.f4.params[j]? = some t → args[j]? = some v → Value.okWide Tryd.prog W .any base t v := hval0
  have hW' := hW
  obtain ⟨p, q, hA0, hV, rfl, hfz, hnd⟩ := hW
  have hA : DataW.TrodAll enc Tryd.prog W 0 (fun _ => true) true Tryd.f4.params.toList args.toList ds p := hA0
  rw [Tryd.params4] at hA hval
  obtain ⟨v0, vs0, d0, ds0, p0, q0, hargs, rfl, rfl, h0, r0⟩ := trodAll_cons hA
  obtain ⟨v1, vs1, d1, ds1, p1, q1, rfl, rfl, rfl, h1, r1⟩ := trodAll_cons r0
  obtain ⟨v2, vs2, d2, ds2, p2, q2, rfl, rfl, rfl, h2, r2⟩ := trodAll_cons r1
  obtain ⟨rfl, rfl, rfl⟩ := trodAll_nil r2
  obtain rfl : args = #[v0, v1, v2] := by cases args; simp_all
  obtain ⟨rfl, rfl⟩ := trodVars_none hV
  have agg0 := okWide_str Tryd.underlying27 (hval 0 27 v0 rfl rfl)
  have agg1 := hval 1 2 v1 rfl rfl
  have agg2 := okWide_str Tryd.underlying23 (hval 2 23 v2 rfl rfl)
  have lt0 : ∀ x ∈ p0, x.block < W.heap.size := by obtain ⟨m, hm⟩ := h0; exact DataW.trod_lt m _ _ _ hm
  have lt1 : ∀ x ∈ p1, x.block < W.heap.size := by obtain ⟨m, hm⟩ := h1; exact DataW.trod_lt m _ _ _ hm
  have lt2 : ∀ x ∈ p2, x.block < W.heap.size := by obtain ⟨m, hm⟩ := h2; exact DataW.trod_lt m _ _ _ hm
  clear hA0 hval0 hval
  have t0 : ∀ W2, RowKit.Below W.heap.size W W2 → DataW.Trod enc Tryd.prog W2 0 _ true 27 v0 d0 p0 := fun W2 bel => Below.trod laidOut (by kernel_rfl) (of_decide_eq_true (by kernel_rfl)) h0 bel lt0
  have t1 : ∀ W2, RowKit.Below W.heap.size W W2 → DataW.Trod enc Tryd.prog W2 0 _ true 2 v1 d1 p1 := fun W2 bel => Below.trod laidOut (by kernel_rfl) (of_decide_eq_true (by kernel_rfl)) h1 bel lt1
  have t2 : ∀ W2, RowKit.Below W.heap.size W W2 → DataW.Trod enc Tryd.prog W2 0 _ true 23 v2 d2 p2 := fun W2 bel => Below.trod laidOut (by kernel_rfl) (of_decide_eq_true (by kernel_rfl)) h2 bel lt2
  have hgw : GW W := gw_of (by kernel_rfl) hS hL
  obtain ⟨T, lv, g1, m1, n1, E1, _, _, _, q0, ro1, hwk, hls, _⟩ := table_in (Ent.start hgw) agg0 h0
  obtain ⟨x1, rfl, rfl, rfl, f1⟩ := open_int Tryd.underlying2 agg1 h1
  obtain ⟨x2, rfl, f2⟩ := pos_in agg2 h2
  refine (w_law_TableSetWork E1 ro1 hwk hls q0 (wf64 f1) f2).mono fun e W' ⟨he, bel⟩ => ?_
  subst he
  exact ⟨_, rfl, _, _, _, [], _, [], hW', trodAll_mk1 (shut_bool Tryd.underlying4 _), (trodAll_cons_mk (t0 _ bel) (trodAll_cons_mk (t1 _ bel) (trodAll_cons_mk (t2 _ bel) trodAll_mk0))), rfl, bel.frame _, fun h => by cases h⟩
theorem over_TableSetWork : Rows.tableSetWorkRow.holds Tryd.pinned (OpenSpec.ofChange Rows.tableSetWorkSpec) :=
  OpenClaim.holds_of_wide 4 Tryd.f4 rfl rfl rfl rfl rfl rfl rfl ⟨rfl, rfl, rfl, rfl, rfl⟩ rfl rfl rfl rfl rfl (by kernel_rfl) Tryd.func4 (by kernel_rfl)
    (of_decide_eq_true (by kernel_rfl)) (by unfold Func.isWrapper; first | (rw [if_pos (by decide +kernel)]; kernel_rfl) | (rw [if_neg (by decide +kernel)]; exact ⟨rfl, rfl⟩))
    (fun os started H enc _ => lifted_TableSetWork os started H enc)
/-- THE STATEMENT. -/
theorem card_TableSetWork : Rows.TableSetWorkCardSaid :=
  Claim7.holds_tied_plain_at .later [] [.data, .data, .data, .data, .pinned] true (true, "06a8a98c0798206de6799372aa049d06d510846b38294d0dbc7d831c5844509c") false
    over_TableSetWork (fun _ h => by cases h) (by kernel_rfl) (fun _ h => by cases h) tableSetWork_row_tie rfl ⟨rfl, rfl⟩ (by kernel_rfl) rfl
    (fun f fn hf hfn => by
      obtain rfl : f = 4 := (Option.some.inj ((show Tryd.prog.funcNamed "swarf/swarflaw45.TableSetWork" = some 4 by kernel_rfl).symm.trans hf)).symm
      obtain rfl : fn = Tryd.f4 := (Option.some.inj (Tryd.func4.symm.trans hfn)).symm
      exact ⟨by kernel_rfl, fun j t ht => by
        show Tryd.prog.wantsStandIn t = false
        have hm := Array.mem_of_getElem? ht
        have := Array.all_eq_true_iff_forall_mem.1 (show Tryd.f4.params.all (fun t => Tryd.prog.wantsStandIn t == false) = true by kernel_rfl) t hm
        simpa using this⟩)
    (by kernel_rfl)
#print axioms card_TableSetWork

end Go.Proofs.YtocbmekcokenoaaDoor
