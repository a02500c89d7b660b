/- Walks, part L0. -/
import Derived.Test.YtoinimkmoojcoaaG6
import Derived.Test.YtoinimkmoojcoaaG2
import Derived.WalkKit
import Derived.ProofKit
import Derived.OpenShut
import Derived.ChangeOld
import Derived.Below
import Derived.Deep.Slices
set_option maxRecDepth 100000
set_option maxHeartbeats 4000000
set_option linter.unusedSimpArgs false
set_option linter.unusedVariables false
namespace Go.Proofs.Ytoinimkmoojcoaa
open Go Go.Dm
attribute [local simp ↓] RunS_nil RunS_op RunS_guard RunT_nil RunT_op RunT_guard opS_call opD_call opS_move opD_move opS_assign opD_assign opS_pick opD_pick opS_nilCheck opD_nilCheck opS_fieldAddr opD_fieldAddr opS_indexAddr opD_indexAddr opS_load opD_load opS_store opD_store opS_alloc opD_alloc opS_box opD_box opS_build opD_build opS_buildSlice opD_buildSlice opS_field opD_field opS_extract opD_extract opS_makeFunc opD_makeFunc opS_slice opD_slice opS_binOp opD_binOp opS_unOp opD_unOp opS_convert opD_convert opS_index opD_index opS_len opD_len opS_append opD_append opS_max opD_max opS_min opD_min obind_some obind_none thenH_normal thenH_ret thenH_exit blockA_normal blockA_ret blockA_exit thenA_normal thenA_ret thenA_exit dstAt_mk dstL_zero dstL_succ
attribute [local simp] undef wantG_bool wantG_undef findO_some calleeS find putA ev closed3 closed2 closed1 closed0 pickA binF unF convF mxF eqNilA fastBin fastUn fastConv intBin argEnv resultsA resultsL resultA notTuple allocs eff
  loadO storeO allocO boxO sliceO indexO indexAddrA loadA storeA newA isAggT nilCheckA lenA evAll evParts aadd gen upd_at upd_upd Value.cells mxV Pairs apart readsS labOf putAt fieldA partA extractA makeFuncA evOpt boundOf sliceA Nat.add_assoc
attribute [local simp] bu107_z bu107_0_1 bu25_0_1_2 bu36_z bu36_0_1 bu36_0_1_2 bu36_0 bu38_z bu38_0_1_2_3_4 bu38_0_1_3 bu38_0_1_3_4 bu38_1_2 bu38_1_2_3 bu52_0_1_10 bu81_0_1 bs22_0_z bs22_1_0 bs22_2_0_1 bs39_1_0 bs39_7_0_1_2_3_4_5_6 bs95_4_0_1_2_3
attribute [local simp ↓] eql107 neq107 eql36 neq36 eql38 neq38 eql25 neq25
attribute [local simp] fa25_0 fa25_1 fa25_2 fa36_0 fa36_1 fa36_2 fa38_0 fa38_1 fa38_2 fa38_3 fa38_4 fa107_0 fa107_1 fa81_0 fa81_1 fa81_2 fa81_3 fa81_4 fa81_5 fa81_6 fa81_7 fa81_8 fa81_9 fa81_10 fa52_0 fa52_1 fa52_2 fa52_3 fa52_4 fa52_5 fa52_6 fa52_7 fa52_8 fa52_9 fa52_10 fa52_11 fa52_12
attribute [local simp] c22 c39 c29 z22 z39 c25 c38 c2 c3 c4 c36 c107 c30 z25 z38 z2 z3 z4 z36 z107 b38 b25 b107 h38 h25 h36 h107 g38 g25 g36 g107 Try.underlying25 Try.underlying38 Try.underlying2 Try.underlying3 Try.underlying4 Try.underlying36 Try.underlying22 Try.underlying39 Try.underlying29 Try.underlying81 Try.underlying107 Try.underlying30
attribute [local simp] mx mn
attribute [local simp] Try.underlying57 Try.underlying5 Try.underlying23 c57 c5 c23
def u8s (l : List Int) : List Value := l.map (.int .u8)
theorem u8s_length (l : List Int) : (u8s l).length = l.length * 1 := by simp [u8s]
theorem u8s_closed (l : List Int) : (u8s l).all closed1 = true := by
  rw [List.all_eq_true]; intro v hv; simp only [u8s, List.mem_map] at hv; obtain ⟨_, _, rfl⟩ := hv; rfl
/-- Element i of a slice of bytes. -/
theorem RO.u8 {h : Heap} {s : Value} {l : List Int} (hr : RO h 1 s (u8s l) l.length) {i : Int} (h0 : 0 ≤ i) (h1 : i < l.length) :
    ∃ B o sp b, h B = some b ∧ b.own = false ∧ indexAddrA Try.prog 57 (some s) (some (.int .i64 i)) = some (.pointer (some ⟨B, o, sp⟩)) ∧ ∀ h' : Heap, h' B = some b → loadA Try.prog h' 5 ⟨B, o, sp⟩ = some (.int .u8 l[i.toNat]!) := by
  obtain ⟨j, rfl⟩ : ∃ j : Nat, i = j := ⟨i.toNat, by omega⟩
  have hj : j < l.length := by omega
  have eg : l[(j : Int).toNat]! = l[j] := by simp [hj]
  rw [eg]
  obtain ⟨⟨B, o, sp⟩, c, b, rfl, hB, ho, hg, hlen, hcells⟩ := hr.at hj
  simp only [Nat.mul_one] at hB hg hlen hcells
  refine ⟨B, o + j, sp, b, hB, ho, by simp -dsimp [hj], ?_⟩
  intro h' hh
  unfold loadA
  simp only [Try.underlying5, hh, hg, gen, isAggT, if_true, Bool.false_eq_true, if_false]
  have e1 := congrArg (·[0]?) hcells
  simp only [List.getElem?_take, List.getElem?_drop] at e1
  simpa [u8s, hj] using e1
/-- A controller in memory, wherever its parts lie. -/
def CIn (h : Heap) (n C : Nat) (s : CS) : Prop := C < n ∧ ∃ Lp mv pl pv, CRepV h C Lp s mv pl pv ∧ Lp < n
def CM (h : Heap) (n C : Nat) (h' : Heap) (n' : Nat) : Prop := n ≤ n' ∧ Fz h h'
theorem CIn.tick {h : Heap} {n C : Nat} {s : CS} (hc : CIn h n C s) (hr : s.Run) (hp : s.pieces.length ≤ 1000000000000) : Dm.Spec Try.prog 22 [pC C] h n fun r' h' n' => r' = .bool s.moves ∧ CIn h' n' C s.tick ∧ n ≤ n' ∧ Fz h h' := by
  obtain ⟨h1, Lp, mv, pl, pv, h2, h3⟩ := hc
  refine (w22 h2 hr hp n h3).mono ?_
  rintro r h' n' ⟨rfl, Lp', pl', pv', a, b, c⟩
  exact ⟨rfl, ⟨by have := b.le; omega, Lp', mv, pl', pv', a, c⟩, b.le, b.fz⟩
theorem CIn.hold {h : Heap} {n C : Nat} {s : CS} (hc : CIn h n C s) (hr : s.Run) (hg : s.Begun) (hp : s.pieces.length ≤ 1000000000000) : Dm.Spec Try.prog 28 [pC C] h n fun r' h' n' => r' = .tuple #[] ∧ CIn h' n' C s.hold ∧ n ≤ n' ∧ Fz h h' := by
  obtain ⟨h1, Lp, mv, pl, pv, h2, h3⟩ := hc
  refine (w28 h2 hr hg hp n h3).mono ?_
  rintro r h' n' ⟨rfl, Lp', pl', pv', a, b, c⟩
  exact ⟨rfl, ⟨by have := b.le; omega, Lp', mv, pl', pv', a, c⟩, b.le, b.fz⟩
theorem CIn.resume {h : Heap} {n C : Nat} {s : CS} (hc : CIn h n C s) : Dm.Spec Try.prog 29 [pC C] h n fun r' h' n' => r' = .tuple #[] ∧ CIn h' n' C { s with held := false } ∧ n ≤ n' ∧ Fz h h' := by
  obtain ⟨h1, Lp, mv, pl, pv, h2, h3⟩ := hc
  refine (w29 h2 n h3).mono ?_
  rintro r h' n' ⟨rfl, Lp', pl', pv', a, b, c⟩
  exact ⟨rfl, ⟨by have := b.le; omega, Lp', mv, pl', pv', a, c⟩, b.le, b.fz⟩
theorem CIn.brk {h : Heap} {n C : Nat} {s : CS} (hc : CIn h n C s) (ho : s.Ok) (hp : s.pieces.length ≤ 1000000000000) : Dm.Spec Try.prog 33 [pC C] h n fun r' h' n' => r' = .tuple #[] ∧ CIn h' n' C s.brk ∧ n ≤ n' ∧ Fz h h' := by
  obtain ⟨h1, Lp, mv, pl, pv, h2, h3⟩ := hc
  refine (w33 h2 ho hp n h3).mono ?_
  rintro r h' n' ⟨rfl, Lp', pl', pv', a, b, c⟩
  exact ⟨rfl, ⟨by have := b.le; omega, Lp', mv, pl', pv', a, c⟩, b.le, b.fz⟩
theorem CIn.up {h h' : Heap} {n n' C : Nat} {s : CS} (hc : CIn h n C s) (hlt : ∀ L b, h L = some b → L < n) (hs : ∀ L, L < n → h' L = h L) (hn : n ≤ n') : CIn h' n' C s := by
  obtain ⟨h1, Lp, mv, pl, pv, h2, h3⟩ := hc
  exact ⟨by omega, Lp, mv, pl, pv, (h2.same hlt hs hn).1, by omega⟩

end Go.Proofs.Ytoinimkmoojcoaa
/- What comes in from outside: motions, bytes, limits. -/
set_option maxRecDepth 100000
set_option linter.unusedSimpArgs false
set_option linter.unusedVariables false
namespace Go.Proofs.Ytoinimkmoojcoaa
open Go Go.Dm Go.ChangeShapes
section
variable {H : Type} {enc : TypeId × Value → H} {w : World} {base : Nat} {spare : Nat → Bool} {held : Bool}
theorem wf64 {n : Int} (h : (Lit.int .i64 n).wf = true) : i64 n := by
  simp only [Lit.wf, Bool.and_eq_true, decide_eq_true_eq] at h
  exact h
theorem trod_i64 {t : TypeId} (ht : Try.prog.underlying t = some (.int .i64)) {fuel : Nat} {cs : List Value} {x : DataW H × List MemPlace} (h : DataW.trod enc Try.prog w base spare held fuel t cs = some x) : ∃ n, cs = [.int .i64 n] ∧ i64 n := by
  obtain ⟨n, h1, _, h2⟩ := DataW.trod_int ht h
  exact ⟨n, h1, wf64 h2⟩
theorem trod_p3 {fuel : Nat} {cs : List Value} {x : DataW H × List MemPlace} (h : DataW.trod enc Try.prog w base spare held fuel 36 cs = some x) : ∃ a b c, cs = [.int .i64 a, .int .i64 b, .int .i64 c] ∧ i64 a ∧ i64 b ∧ i64 c := by
  obtain ⟨xs, n, _, _, hl, hxl, hx⟩ := DataW.trod_struct Try.underlying36 h
  have hxl : xs.length = 3 := hxl
  rw [c36] at hl
  have g : ∀ i, i < 3 → ∃ y, xs[i]? = some y := fun i hi => ⟨xs[i], List.getElem?_eq_getElem (by omega)⟩
  obtain ⟨y0, e0⟩ := g 0 (by omega)
  obtain ⟨y1, e1⟩ := g 1 (by omega)
  obtain ⟨y2, e2⟩ := g 2 (by omega)
  have f0 := hx 0 { name := "X", type := 2, offset := 0, embedded := false, tag := "", pkgPath := "", byteOffset := 0 } rfl
  have f1 := hx 1 { name := "Y", type := 2, offset := 1, embedded := false, tag := "", pkgPath := "", byteOffset := 8 } rfl
  have f2 := hx 2 { name := "Z", type := 2, offset := 2, embedded := false, tag := "", pkgPath := "", byteOffset := 16 } rfl
  rw [e0] at f0; rw [e1] at f1; rw [e2] at f2
  simp only [c2] at f0 f1 f2
  obtain ⟨a, ha, wa⟩ := trod_i64 Try.underlying2 f0
  obtain ⟨b, hb, wb⟩ := trod_i64 Try.underlying2 f1
  obtain ⟨c, hc, wc⟩ := trod_i64 Try.underlying2 f2
  match cs, hl with
  | [u0, u1, u2], _ =>
    simp at ha hb hc
    subst ha; subst hb; subst hc
    exact ⟨a, b, c, rfl, wa, wb, wc⟩
theorem trod_mot {fuel : Nat} {cs : List Value} {x : DataW H × List MemPlace} (h : DataW.trod enc Try.prog w base spare held fuel 38 cs = some x) : ∃ m : Mot, cs = m.cells ∧ m.Fit := by
  obtain ⟨xs, n, _, _, hl, hxl, hx⟩ := DataW.trod_struct Try.underlying38 h
  have hxl : xs.length = 5 := hxl
  rw [c38] at hl
  have g : ∀ i, i < 5 → ∃ y, xs[i]? = some y := fun i hi => ⟨xs[i], List.getElem?_eq_getElem (by omega)⟩
  obtain ⟨y0, e0⟩ := g 0 (by omega)
  obtain ⟨y1, e1⟩ := g 1 (by omega)
  obtain ⟨y2, e2⟩ := g 2 (by omega)
  obtain ⟨y3, e3⟩ := g 3 (by omega)
  obtain ⟨y4, e4⟩ := g 4 (by omega)
  have f0 := hx 0 { name := "From", type := 36, offset := 0, embedded := false, tag := "", pkgPath := "", byteOffset := 0 } rfl
  have f1 := hx 1 { name := "To", type := 36, offset := 3, embedded := false, tag := "", pkgPath := "", byteOffset := 24 } rfl
  have f2 := hx 2 { name := "Rate", type := 2, offset := 6, embedded := false, tag := "", pkgPath := "", byteOffset := 48 } rfl
  have f3 := hx 3 { name := "Tool", type := 3, offset := 7, embedded := false, tag := "", pkgPath := "", byteOffset := 56 } rfl
  have f4 := hx 4 { name := "Block", type := 3, offset := 8, embedded := false, tag := "", pkgPath := "", byteOffset := 64 } rfl
  rw [e0] at f0; rw [e1] at f1; rw [e2] at f2; rw [e3] at f3; rw [e4] at f4
  simp only [c2, c3, c36] at f0 f1 f2 f3 f4
  obtain ⟨a, b, c, h0, wf⟩ := trod_p3 f0
  obtain ⟨a', b', c', h1, wt⟩ := trod_p3 f1
  obtain ⟨r, h2, wr⟩ := trod_i64 Try.underlying2 f2
  obtain ⟨t, h3, wt'⟩ := trod_i64 Try.underlying3 f3
  obtain ⟨k, h4, wk⟩ := trod_i64 Try.underlying3 f4
  match cs, hl with
  | [u0, u1, u2, u3, u4, u5, u6, u7, u8], _ =>
    simp at h0 h1 h2 h3 h4
    obtain ⟨rfl, rfl, rfl⟩ := h0
    obtain ⟨rfl, rfl, rfl⟩ := h1
    subst h2; subst h3; subst h4
    exact ⟨⟨a, b, c, a', b', c', r, t, k⟩, rfl, ⟨wf, wt, wr, wt', wk⟩⟩
theorem list_of {α : Type} {p : Nat → α → Prop} : ∀ n, (∀ i, i < n → ∃ x, p i x) → ∃ l : List α, l.length = n ∧ ∀ i (hi : i < l.length), p i l[i]
  | 0, _ => ⟨[], rfl, fun i hi => absurd hi (by simp)⟩
  | n + 1, h => by
    obtain ⟨l, h1, h2⟩ := list_of n fun i hi => h i (by omega)
    obtain ⟨x, hx⟩ := h n (by omega)
    refine ⟨l ++ [x], by simp [h1], fun i hi => ?_⟩
    by_cases he : i < l.length
    · rw [List.getElem_append_left he]; exact h2 i he
    · have : i = n := by simp at hi; omega
      subst this
      rw [List.getElem_append_right (by omega)]; simpa [h1] using hx
theorem add_add {a : Addr} (hs : a.spot = none) (i j : Nat) : (a.add i).add j = a.add (i + j) := by
  obtain ⟨k, o, sp⟩ := a
  simp only at hs; subst hs
  rw [add_at, add_at, add_at, Nat.add_assoc]
/-- A slice of motions that came in. -/
theorem mots_in {W : World} {h : Heap} {m : LMap} {n : Nat} (E : Ent h m n W) {A0 : Option Addr} {l0 k0 : Nat} {d : DataW H} {p : List MemPlace} (hk : DataW.Trod enc Try.prog W 0 spare held 22 (.slice A0 l0 k0) d p) :
    ∃ ms lv h' m' n', Ent h' m' n' W ∧ m.le m' ∧ n ≤ n' ∧ (∀ L, L < n → h' L = h L) ∧ VR3 m' lv (.slice A0 l0 k0) ∧ RO h' 9 lv (motCells ms) ms.length ∧ (∀ x ∈ ms, x.Fit) ∧ ms.length ≤ 9223372036854775807 := by
  obtain ⟨fuel, hf⟩ := hk
  rcases Go.Deep.open_slice Try.underlying22 hf with ⟨hcs, _⟩ | ⟨a, len, cap, mm, nn, D, Pl, hcs, _, hl, hmx, hmm, _, hel⟩
  · simp only [Value.cells, List.cons.injEq, Value.slice.injEq, and_true] at hcs
    obtain ⟨rfl, rfl, rfl⟩ := hcs
    exact ⟨[], .slice none 0 0, h, m, n, E, m.le_refl, Nat.le_refl n, fun _ _ => rfl, VR3.refl rfl, RO.nil, fun x hx => (by cases hx), by simp⟩
  · simp only [Value.cells, List.cons.injEq, Value.slice.injEq, and_true] at hcs
    obtain ⟨rfl, rfl, rfl⟩ := hcs
    simp only [c38] at hel
    have hmx' : l0 ≤ 9223372036854775807 := by
      have : maxLen = 9223372036854775807 := rfl
      omega
    have hmle : l0 ≤ mm := by rw [hmm]; split <;> omega
    obtain ⟨ms, hms, hel2⟩ := list_of (p := fun i (x : Mot) => W.cells? 0 (a.add (i * 9)) 9 = some x.cells ∧ x.Fit ∨ False) l0 fun i hi => by
      obtain ⟨cs', h1, h2⟩ := hel i (by omega)
      obtain ⟨x, rfl, hx⟩ := trod_mot h2
      obtain ⟨q1, q2, q3⟩ := World.cells?_some h1
      refine ⟨x, .inl ⟨?_, hx⟩⟩
      unfold World.cells? at h1 ⊢
      rw [if_pos q1] at h1
      rw [if_pos (Nat.zero_le _)]; exact h1
    have hfit : ∀ x ∈ ms, x.Fit := by
      intro x hx
      obtain ⟨i, hi, rfl⟩ := List.mem_iff_getElem.1 hx
      rcases hel2 i hi with h | h
      · exact h.2
      · exact h.elim
    by_cases h0 : l0 = 0
    · subst h0
      have : ms = [] := List.eq_nil_of_length_eq_zero hms
      subst this
      exact ⟨[], .slice (some ⟨0, 0, none⟩) 0 0, h, m, n, E, m.le_refl, Nat.le_refl n, fun _ _ => rfl, slice_in_empty, ⟨rfl, _, _, rfl, fun h => (nomatch h), fun h => absurd h (by simp)⟩, hfit, by simp⟩
    · have hlen := motCells_length ms
      have hcell0 : ∀ i q vv, i < ms.length → q < 9 → (motCells ms)[i * 9 + q]? = some vv → W.cell? ((a.add (i * 9)).add q) = some vv := by
        intro i q vv hi hq hv
        rcases hel2 i hi with ⟨h1, _⟩ | h
        · obtain ⟨_, _, h3⟩ := World.cells?_some h1
          rw [h3 q hq]
          have e1 := congrArg (·[q]?) (motCells_at ms i hi)
          simp only [List.getElem?_take, List.getElem?_drop, if_pos hq] at e1
          rw [← e1]; exact hv
        · exact h.elim
      have hsp : a.spot = none := by
        have hpos : 0 < (motCells ms).length := by omega
        have := hcell0 0 0 _ (by omega) (by omega) (List.getElem?_eq_getElem (by omega))
        have := World.cell?_spot this
        simpa [Addr.add] using this
      obtain ⟨b, m', hb1, hb2, hb3, E', hle, r, hm', _⟩ := E.row (a := a) (cells := motCells ms) (by omega) (fun j vv hj => by
        have hjl := (List.getElem?_eq_some_iff.1 hj).1
        have hq := Nat.mod_lt j (show 0 < 9 by omega)
        have he : j / 9 * 9 + j % 9 = j := by omega
        have := hcell0 (j / 9) (j % 9) vv (by omega) hq (by rw [he]; exact hj)
        rw [add_add hsp, he] at this
        exact this) (motCells_closed ms)
      refine ⟨ms, .slice (some ⟨n, 0, none⟩) l0 0, upd h n b, m', n + 1, E', hle, by omega, fun L hL => by rw [upd_at, if_neg (by omega)], slice_in hm' hsp (by omega) hl, ?_, hfit, by omega⟩
      rw [hms]
      refine ⟨by omega, _, _, rfl, fun h => (nomatch h), fun _ => ⟨_, b, rfl, by rw [upd_at, if_pos rfl], hb3, hb2, by rw [hb1]; simp only; omega, ?_⟩⟩
      rw [hb1]; simp only [List.drop_zero]; rw [← hms, ← hlen]; exact List.take_length
end
end Go.Proofs.Ytoinimkmoojcoaa
/- What comes in from outside: bytes and limits. -/
set_option maxRecDepth 100000
set_option linter.unusedSimpArgs false
set_option linter.unusedVariables false
namespace Go.Proofs.Ytoinimkmoojcoaa
open Go Go.Dm Go.ChangeShapes
section
variable {H : Type} {enc : TypeId × Value → H} {w : World} {base : Nat} {spare : Nat → Bool} {held : Bool}
theorem trod_u8 {t : TypeId} (ht : Try.prog.underlying t = some (.int .u8)) {fuel : Nat} {cs : List Value} {x : DataW H × List MemPlace} (h : DataW.trod enc Try.prog w base spare held fuel t cs = some x) : ∃ n, cs = [.int .u8 n] ∧ 0 ≤ n ∧ n ≤ 255 := by
  obtain ⟨n, h1, _, h2⟩ := DataW.trod_int ht h
  simp only [Lit.wf, Bool.and_eq_true, decide_eq_true_eq] at h2
  exact ⟨n, h1, h2⟩
/-- Three whole numbers in a row. -/
theorem lim_in {v : Value} {d : DataW H} {p : List MemPlace} (hv : ∃ cs, v = .agg cs) (hk : DataW.Trod enc Try.prog w base spare held 23 v d p) : ∃ S A J, v = limV S A J ∧ i64 S ∧ i64 A ∧ i64 J := by
  obtain ⟨cs, rfl⟩ := hv
  obtain ⟨fuel, hf⟩ := hk
  obtain ⟨xs, n, _, _, hl, hxl, hx⟩ := DataW.trod_array Try.underlying23 hf
  rw [c23] at hl
  simp only [c2] at hx
  have g : ∀ i, i < 3 → ∃ y, xs[i]? = some y := fun i hi => ⟨xs[i], List.getElem?_eq_getElem (by omega)⟩
  obtain ⟨y0, e0⟩ := g 0 (by omega)
  obtain ⟨y1, e1⟩ := g 1 (by omega)
  obtain ⟨y2, e2⟩ := g 2 (by omega)
  have f0 := hx 0 (by omega)
  have f1 := hx 1 (by omega)
  have f2 := hx 2 (by omega)
  rw [e0] at f0; rw [e1] at f1; rw [e2] at f2
  obtain ⟨a, ha, wa⟩ := trod_i64 Try.underlying2 f0
  obtain ⟨b, hb, wb⟩ := trod_i64 Try.underlying2 f1
  obtain ⟨c, hc, wc⟩ := trod_i64 Try.underlying2 f2
  obtain ⟨l⟩ := cs
  simp only [Value.cells] at hl ha hb hc
  match l, hl with
  | [u0, u1, u2], _ =>
    simp at ha hb hc
    subst ha; subst hb; subst hc
    exact ⟨a, b, c, rfl, wa, wb, wc⟩
/-- A slice of bytes that came in. -/
theorem bytes_in {W : World} {h : Heap} {m : LMap} {n : Nat} (E : Ent h m n W) {A0 : Option Addr} {l0 k0 : Nat} {d : DataW H} {p : List MemPlace} (hk : DataW.Trod enc Try.prog W 0 spare held 57 (.slice A0 l0 k0) d p) :
    ∃ bs lv h' m' n', Ent h' m' n' W ∧ m.le m' ∧ n ≤ n' ∧ (∀ L, L < n → h' L = h L) ∧ VR3 m' lv (.slice A0 l0 k0) ∧ RO h' 1 lv (u8s bs) bs.length ∧ (∀ x ∈ bs, 0 ≤ x ∧ x ≤ 255) ∧ bs.length ≤ 9223372036854775807 := by
  obtain ⟨fuel, hf⟩ := hk
  rcases Go.Deep.open_slice Try.underlying57 hf with ⟨hcs, _⟩ | ⟨a, len, cap, mm, nn, D, Pl, hcs, _, hl, hmx, hmm, _, hel⟩
  · simp only [Value.cells, List.cons.injEq, Value.slice.injEq, and_true] at hcs
    obtain ⟨rfl, rfl, rfl⟩ := hcs
    exact ⟨[], .slice none 0 0, h, m, n, E, m.le_refl, Nat.le_refl n, fun _ _ => rfl, VR3.refl rfl, RO.nil, fun x hx => (by cases hx), by simp⟩
  · simp only [Value.cells, List.cons.injEq, Value.slice.injEq, and_true] at hcs
    obtain ⟨rfl, rfl, rfl⟩ := hcs
    simp only [c5] at hel
    have hmx' : l0 ≤ 9223372036854775807 := by
      have : maxLen = 9223372036854775807 := rfl
      omega
    have hmle : l0 ≤ mm := by rw [hmm]; split <;> omega
    obtain ⟨bs, hbs, hel2⟩ := list_of (p := fun i (x : Int) => W.cell? (a.add i) = some (.int .u8 x) ∧ 0 ≤ x ∧ x ≤ 255) l0 fun i hi => by
      obtain ⟨cs', h1, h2⟩ := hel i (by omega)
      obtain ⟨x, rfl, hx⟩ := trod_u8 Try.underlying5 h2
      obtain ⟨q1, q2, q3⟩ := World.cells?_some h1
      refine ⟨x, ?_, hx⟩
      have := q3 0 (by omega)
      simpa [Addr.add] using this
    have hby : ∀ x ∈ bs, 0 ≤ x ∧ x ≤ 255 := by
      intro x hx
      obtain ⟨i, hi, rfl⟩ := List.mem_iff_getElem.1 hx
      exact (hel2 i hi).2
    by_cases h0 : l0 = 0
    · subst h0
      have : bs = [] := List.eq_nil_of_length_eq_zero hbs
      subst this
      exact ⟨[], .slice (some ⟨0, 0, none⟩) 0 0, h, m, n, E, m.le_refl, Nat.le_refl n, fun _ _ => rfl, slice_in_empty, ⟨rfl, _, _, rfl, fun h => (nomatch h), fun h => absurd h (by simp)⟩, hby, by simp⟩
    · have hlen := u8s_length bs
      obtain ⟨b, m', hb1, hb2, hb3, E', hle, r, hm', hsp⟩ := E.row (a := a) (cells := u8s bs) (by omega) (fun j vv hj => by
        simp only [u8s, List.getElem?_map] at hj
        obtain ⟨x, hx, rfl⟩ := Option.map_eq_some_iff.1 hj
        obtain ⟨hjl, rfl⟩ := List.getElem?_eq_some_iff.1 hx
        exact (hel2 j hjl).1) (u8s_closed bs)
      refine ⟨bs, .slice (some ⟨n, 0, none⟩) l0 0, upd h n b, m', n + 1, E', hle, by omega, fun L hL => by rw [upd_at, if_neg (by omega)], slice_in hm' hsp (by omega) hl, ?_, hby, by omega⟩
      rw [hbs]
      refine ⟨by omega, _, _, rfl, fun h => (nomatch h), fun _ => ⟨_, b, rfl, by rw [upd_at, if_pos rfl], hb3, hb2, by rw [hb1]; simp only; omega, ?_⟩⟩
      rw [hb1]; simp only [List.drop_zero]; rw [show l0 * 1 = (u8s bs).length by omega]; exact List.take_length
theorem okWide_arr {P : Program} {r : Reach} {b0 : Nat} {t e : TypeId} {k : Nat} {v : Value} (ht : P.underlying t = some (.array k e)) (h : Value.okWide P w r b0 t v) : ∃ cs, v = .agg cs := by
  simp only [Value.okWide, ht] at h
  obtain ⟨cs, h1, _⟩ := h
  exact ⟨cs, h1⟩
theorem RO.same {h h' : Heap} {m : LMap} {n : Nat} {W : World} (E : Ent h m n W) {k j : Nat} {v : Value} {cells : List Value} (hr : RO h k v cells j) (hs : ∀ L, L < n → h' L = h L) : RO h' k v cells j :=
  hr.fz fun L b x _ => by rw [hs L (E.rel.lt E.dom x)]; exact x
end
end Go.Proofs.Ytoinimkmoojcoaa
