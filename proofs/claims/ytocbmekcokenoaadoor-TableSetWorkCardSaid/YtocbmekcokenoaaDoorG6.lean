/- Walks, part E1. -/
import Derived.Test.YtocbmekcokenoaaDoorRows
import Derived.Test.YtocbmekcokenoaaDoorG5
import Derived.Test.YtocbmekcokenoaaDoorG2
import Derived.WalkKit
import Derived.ProofKit
import Derived.OpenShut
import Derived.ChangeOld
import Derived.Below
import Derived.Deep.Slices
import Derived.LaidSub
import Derived.LaidHandle
import Derived.LaidLaws
import Derived.Handed
set_option maxRecDepth 100000
set_option maxHeartbeats 4000000
set_option linter.unusedSimpArgs false
set_option linter.unusedVariables false
namespace Go.Proofs.YtocbmekcokenoaaDoor
open Go Go.Dm
attribute [local simp ↓] RunS_nil RunS_op RunS_guard RunT_nil RunT_op RunT_guard opS_call opD_call opS_move opD_move opS_assign opD_assign opS_pick opD_pick opS_nilCheck opD_nilCheck opS_fieldAddr opD_fieldAddr opS_indexAddr opD_indexAddr opS_load opD_load opS_store opD_store opS_alloc opD_alloc opS_box opD_box opS_build opD_build opS_buildSlice opD_buildSlice opS_field opD_field opS_extract opD_extract opS_makeFunc opD_makeFunc opS_slice opD_slice opS_binOp opD_binOp opS_unOp opD_unOp opS_convert opD_convert opS_index opD_index opS_len opD_len opS_append opD_append opS_max opD_max opS_min opD_min opS_makeSlice opD_makeSlice opS_makeInterface opD_makeInterface opS_copy opD_copy opS_data opD_data opS_string opD_string opS_cap opD_cap obind_some obind_none thenH_normal thenH_ret thenH_exit blockA_normal blockA_ret blockA_exit thenA_normal thenA_ret thenA_exit dstAt_mk dstL_zero dstL_succ
attribute [local simp] undef wantG_bool wantG_undef findO_some calleeS find putA ev closed3 closed2 closed1 closed0 pickA orE_some orE_none binF binXO binX binB strX unF convF convX convB mxF eqNilA fastBin fastUn fastConv intBin argEnv resultsA resultsL resultA notTuple allocs eff
  loadO storeO allocO boxO sliceO sliceX indexO indexXO indexX indexB lenO lenS capX ifaceO indexAddrA loadA storeA newA isAggT nilCheckA lenA evAll evParts aadd gen upd_at upd_upd Value.cells mxV Pairs apart readsS readB labOf putAt fieldA partA extractA makeFuncA evOpt boundOf sliceA isV0 Nat.add_assoc
attribute [local simp] bu23_z bu23_0_1_2 bu27_z bu27_0_1 bu27_0 bu33_z bu33_0 bu48_0_1 bu61_0_1 bs25_0_z bs25_1_0 bs31_0_z bs31_1_0 bs74_1_0 bs82_3_0_1_2
attribute [local simp ↓] eql23 neq23 eql48 neq48 eql61 neq61 eql24 neq24
attribute [local simp] fa23_0 fa23_1 fa23_2 fa48_0 fa48_1 fa61_0 fa61_1 fa33_0 fa33_1 fa27_0 fa27_1
attribute [local simp] c2 b2 z2 c3 b3 z3 c4 b4 z4 c5 b5 z5 c9 b9 z9 c23 b23 z23 h23 g23 c24 b24 z24 c25 b25 z25 c27 b27 z27 h27 g27 c29 b29 z29 c31 b31 z31 c33 b33 z33 h33 g33 c48 b48 z48 h48 g48 c50 b50 z50 c58 b58 z58 c61 b61 z61 h61 g61 Tryd.underlying2 Tryd.underlying3 Tryd.underlying4 Tryd.underlying5 Tryd.underlying9 Tryd.underlying23 Tryd.underlying24 Tryd.underlying25 Tryd.underlying27 Tryd.underlying29 Tryd.underlying31 Tryd.underlying33 Tryd.underlying48 Tryd.underlying50 Tryd.underlying58 Tryd.underlying61
open Go.ChangeShapes Go.WideShapes Go.ChangeAt Go.RowKit
section
variable {H : Type} {enc : TypeId × Value → H} {w : World} {base : Nat} {spare : Nat → Bool} {held : Bool}
theorem wf64 {n : Int} (h : (Lit.int .i64 n).wf = true) : i64 n := by
  simp only [Lit.wf, Bool.and_eq_true, decide_eq_true_eq] at h
  exact h
theorem trod_i64 {t : TypeId} (ht : Tryd.prog.underlying t = some (.int .i64)) {fuel : Nat} {cs : List Value} {x : DataW H × List MemPlace} (h : DataW.trod enc Tryd.prog w base spare held fuel t cs = some x) : ∃ n, cs = [.int .i64 n] ∧ i64 n := by
  obtain ⟨n, h1, _, h2⟩ := DataW.trod_int ht h
  exact ⟨n, h1, wf64 h2⟩
theorem trod_p3 {fuel : Nat} {cs : List Value} {x : DataW H × List MemPlace} (h : DataW.trod enc Tryd.prog w base spare held fuel 23 cs = some x) : ∃ p : P3, cs = p.cells ∧ p.Fit := by
  obtain ⟨xs, n, _, _, hl, hxl, hx⟩ := DataW.trod_struct Tryd.underlying23 h
  have hxl : xs.length = 3 := hxl
  rw [c23] at hl
  have f0 : DataW.trod enc Tryd.prog w base spare held n 2 ((cs.drop 0).take (Tryd.prog.cellsOf 2)) = xs[0]? := hx 0 _ rfl
  have f1 : DataW.trod enc Tryd.prog w base spare held n 2 ((cs.drop 1).take (Tryd.prog.cellsOf 2)) = xs[1]? := hx 1 _ rfl
  have f2 : DataW.trod enc Tryd.prog w base spare held n 2 ((cs.drop 2).take (Tryd.prog.cellsOf 2)) = xs[2]? := hx 2 _ rfl
  rw [List.getElem?_eq_getElem (by omega : 0 < xs.length)] at f0
  rw [List.getElem?_eq_getElem (by omega : 1 < xs.length)] at f1
  rw [List.getElem?_eq_getElem (by omega : 2 < xs.length)] at f2
  simp only [c2] at f0 f1 f2
  obtain ⟨a, ha, wa⟩ := trod_i64 Tryd.underlying2 f0
  obtain ⟨b, hb, wb⟩ := trod_i64 Tryd.underlying2 f1
  obtain ⟨c, hc, wc⟩ := trod_i64 Tryd.underlying2 f2
  match cs, hl with
  | [u0, u1, u2], _ =>
    simp at ha hb hc
    subst ha; subst hb; subst hc
    exact ⟨⟨a, b, c⟩, rfl, wa, wb, wc⟩
theorem trod_ln {fuel : Nat} {cs : List Value} {x : DataW H × List MemPlace} (h : DataW.trod enc Tryd.prog w base spare held fuel 61 cs = some x) : ∃ e : Ln, cs = e.cells ∧ e.Fit := by
  obtain ⟨xs, n, _, _, hl, hxl, hx⟩ := DataW.trod_struct Tryd.underlying61 h
  have hxl : xs.length = 2 := hxl
  rw [c61] at hl
  have f0 : DataW.trod enc Tryd.prog w base spare held n 2 ((cs.drop 0).take (Tryd.prog.cellsOf 2)) = xs[0]? := hx 0 _ rfl
  have f1 : DataW.trod enc Tryd.prog w base spare held n 2 ((cs.drop 1).take (Tryd.prog.cellsOf 2)) = xs[1]? := hx 1 _ rfl
  rw [List.getElem?_eq_getElem (by omega : 0 < xs.length)] at f0
  rw [List.getElem?_eq_getElem (by omega : 1 < xs.length)] at f1
  simp only [c2] at f0 f1
  obtain ⟨a, ha, wa⟩ := trod_i64 Tryd.underlying2 f0
  obtain ⟨b, hb, wb⟩ := trod_i64 Tryd.underlying2 f1
  match cs, hl with
  | [u0, u1], _ =>
    simp at ha hb
    subst ha; subst hb
    exact ⟨⟨a, b⟩, rfl, wa, wb⟩
theorem list_of {α : Type} {p : Nat → α → Prop} : ∀ n, (∀ i, i < n → ∃ x, p i x) → ∃ l : List α, l.length = n ∧ ∀ i (hi : i < l.length), p i l[i]
  | 0, _ => ⟨[], rfl, fun i hi => absurd hi (by simp)⟩
  | n + 1, h => by
    obtain ⟨l, h1, h2⟩ := list_of n fun i hi => h i (by omega)
    obtain ⟨x, hx⟩ := h n (by omega)
    refine ⟨l ++ [x], by simp [h1], fun i hi => ?_⟩
    by_cases he : i < l.length
    · rw [List.getElem_append_left he]; exact h2 i he
    · have : i = n := by simp at hi; omega
      subst this
      rw [List.getElem_append_right (by omega)]; simpa [h1] using hx
theorem add_add {a : Addr} (hs : a.spot = none) (i j : Nat) : (a.add i).add j = a.add (i + j) := by
  obtain ⟨k, o, sp⟩ := a
  simp only at hs; subst hs
  rw [add_at, add_at, add_at, Nat.add_assoc]
theorem flat_len {α : Type} {cells : α → List Value} {k : Nat} (hlen : ∀ x, (cells x).length = k) (l : List α) : (l.flatMap cells).length = l.length * k := by
  induction l with
  | nil => simp
  | cons m l ih => simp only [List.flatMap_cons, List.length_append, ih, hlen, List.length_cons, Nat.add_mul]; omega
theorem flat_at {α : Type} {cells : α → List Value} {k : Nat} (hlen : ∀ x, (cells x).length = k) : ∀ (l : List α) (i : Nat) (hi : i < l.length), ((l.flatMap cells).drop (i * k)).take k = cells l[i]
  | m :: l, 0, _ => by simp [← hlen m]
  | m :: l, i + 1, hi => by
    have := flat_at hlen l i (by simpa using hi)
    simp only [List.flatMap_cons]
    rw [List.drop_append, List.drop_eq_nil_of_le (by rw [hlen, Nat.add_mul]; omega)]
    rw [show (i + 1) * k - (cells m).length = i * k by rw [hlen, Nat.add_mul]; omega]
    simpa using this
/-- A slice of things that came in. -/
theorem rows_in {P : Program} {α : Type} {cells : α → List Value} {Fit : α → Prop} {k : Nat} (hk : 0 < k) (hlen : ∀ x, (cells x).length = k) (hcl : ∀ x, (cells x).all closed1 = true) {ts te : TypeId} (ht : P.underlying ts = some (.slice te)) (hc : P.cellsOf te = k)
    {W : World} (hopen : ∀ fuel cs x b, DataW.trod enc P W 0 spare b fuel te cs = some x → ∃ a, cs = cells a ∧ Fit a)
    {h : Heap} {m : LMap} {n : Nat} (E : Ent h m n W) {fuel : Nat} {cs : List Value} {x : DataW H × List MemPlace} (hf : DataW.trod enc P W 0 spare held fuel ts cs = some x) :
    ∃ A0 l0 k0, cs = [.slice A0 l0 k0] ∧ ∃ (ms : List α) (lv : Value) (h' : Heap) (m' : LMap) (n' : Nat), Ent h' m' n' W ∧ m.le m' ∧ n ≤ n' ∧ (∀ L, L < n → h' L = h L) ∧ VR3 m' lv (.slice A0 l0 k0) ∧ RD h' k lv (ms.flatMap cells) ms.length ∧ (∀ x ∈ ms, Fit x) ∧ ms.length ≤ 9223372036854775807 := by
  rcases Go.Deep.open_slice ht hf with ⟨hcs, _⟩ | ⟨a, len, cap, mm, nn, D, Pl, hcs, _, hl, hmx, hmm, _, hel⟩
  · exact ⟨_, _, _, hcs, [], .slice none 0 0, h, m, n, E, m.le_refl, Nat.le_refl n, fun _ _ => rfl, VR3.refl rfl, RD.nil, fun x hx => (by cases hx), by simp⟩
  · refine ⟨_, _, _, hcs, ?_⟩
    simp only [hc] at hel
    have hmx' : len ≤ 9223372036854775807 := by
      have : maxLen = 9223372036854775807 := rfl
      omega
    have hmle : len ≤ mm := by rw [hmm]; split <;> omega
    obtain ⟨ms, hms, hel2⟩ := list_of (p := fun i (x : α) => W.cells? 0 (a.add (i * k)) k = some (cells x) ∧ Fit x) len fun i hi => by
      obtain ⟨cs', h1, h2⟩ := hel i (by omega)
      obtain ⟨x, rfl, hx⟩ := hopen _ _ _ _ h2
      obtain ⟨q1, q2, q3⟩ := World.cells?_some h1
      refine ⟨x, ?_, hx⟩
      unfold World.cells? at h1 ⊢
      rw [if_pos q1] at h1
      rw [if_pos (Nat.zero_le _)]; exact h1
    have hfit : ∀ x ∈ ms, Fit x := by
      intro x hx
      obtain ⟨i, hi, rfl⟩ := List.mem_iff_getElem.1 hx
      exact (hel2 i hi).2
    by_cases h0 : len = 0
    · subst h0
      have : ms = [] := List.eq_nil_of_length_eq_zero hms
      subst this
      exact ⟨[], .slice (some ⟨0, 0, none⟩) 0 0, h, m, n, E, m.le_refl, Nat.le_refl n, fun _ _ => rfl, slice_in_empty, ⟨by simp, _, _, rfl, fun h => (nomatch h), fun h => absurd h (by simp)⟩, hfit, by simp⟩
    · have hfl := flat_len hlen ms
      have hcell0 : ∀ i q vv, i < ms.length → q < k → (ms.flatMap cells)[i * k + q]? = some vv → W.cell? ((a.add (i * k)).add q) = some vv := by
        intro i q vv hi hq hv
        obtain ⟨_, _, h3⟩ := World.cells?_some (hel2 i hi).1
        rw [h3 q hq]
        have e1 := congrArg (·[q]?) (flat_at hlen ms i hi)
        simp only [List.getElem?_take, List.getElem?_drop, if_pos hq] at e1
        rw [← e1]; exact hv
      have hpos : 0 < (ms.flatMap cells).length := by
        rw [hfl, hms]; exact Nat.mul_pos (by omega) hk
      have hsp : a.spot = none := by
        have := hcell0 0 0 _ (by omega) (by omega) (by rw [Nat.zero_mul]; exact List.getElem?_eq_getElem hpos)
        have := World.cell?_spot this
        simpa [Addr.add] using this
      obtain ⟨b, m', hb1, hb2, hb3, E', hle, r, hm', _⟩ := E.row (a := a) (cells := ms.flatMap cells) hpos (fun j vv hj => by
        have hjl := (List.getElem?_eq_some_iff.1 hj).1
        have hq := Nat.mod_lt j hk
        have he : j / k * k + j % k = j := by rw [Nat.mul_comm]; exact Nat.div_add_mod j k
        have hd : j / k < ms.length := by rw [Nat.div_lt_iff_lt_mul hk, ← hfl]; exact hjl
        have := hcell0 (j / k) (j % k) vv hd hq (by rw [he]; exact hj)
        rw [add_add hsp, he] at this
        exact this) (by
        rw [List.all_eq_true]; intro v hv
        obtain ⟨x, _, hv⟩ := List.mem_flatMap.1 hv
        exact List.all_eq_true.1 (hcl x) v hv)
      refine ⟨ms, .slice (some ⟨n, 0, none⟩) len 0, upd h n b, m', n + 1, E', hle, by omega, fun L hL => by rw [upd_at, if_neg (by omega)], slice_in hm' hsp (by omega) hl, ?_, hfit, by omega⟩
      rw [hms]
      rw [hms] at hfl
      refine ⟨hfl, _, _, rfl, fun h => (nomatch h), fun _ => ⟨_, b, rfl, by rw [upd_at, if_pos rfl], hb2, by rw [hb1]; simp only; omega, ?_⟩⟩
      rw [hb1]; simp only [List.drop_zero]; rw [← hfl]; exact List.take_length
theorem trod_work {fuel : Nat} {cs : List Value} {x : DataW H × List MemPlace} (h : DataW.trod enc Tryd.prog w base spare held fuel 24 cs = some x) : ∃ p0 p1 p2 p3 p4 p5 : P3, cs = p0.cells ++ p1.cells ++ p2.cells ++ p3.cells ++ p4.cells ++ p5.cells ∧ ∀ p ∈ [p0, p1, p2, p3, p4, p5], p.Fit := by
  obtain ⟨xs, n, _, _, hl, hxl, hx⟩ := DataW.trod_array Tryd.underlying24 h
  rw [c24] at hl
  simp only [c23] at hx
  have g : ∀ i, i < 6 → ∃ p : P3, (cs.drop (i * 3)).take 3 = p.cells ∧ p.Fit := fun i hi => by
    have f := hx i hi
    rw [List.getElem?_eq_getElem (by omega : i < xs.length)] at f
    exact trod_p3 f
  obtain ⟨p0, e0, w0⟩ := g 0 (by omega)
  obtain ⟨p1, e1, w1⟩ := g 1 (by omega)
  obtain ⟨p2, e2, w2⟩ := g 2 (by omega)
  obtain ⟨p3, e3, w3⟩ := g 3 (by omega)
  obtain ⟨p4, e4, w4⟩ := g 4 (by omega)
  obtain ⟨p5, e5, w5⟩ := g 5 (by omega)
  refine ⟨p0, p1, p2, p3, p4, p5, ?_, by simp [w0, w1, w2, w3, w4, w5]⟩
  match cs, hl with
  | [a0, a1, a2, a3, a4, a5, a6, a7, a8, a9, a10, a11, a12, a13, a14, a15, a16, a17], _ =>
    simp [P3.cells] at e0 e1 e2 e3 e4 e5
    obtain ⟨rfl, rfl, rfl⟩ := e0
    obtain ⟨rfl, rfl, rfl⟩ := e1
    obtain ⟨rfl, rfl, rfl⟩ := e2
    obtain ⟨rfl, rfl, rfl⟩ := e3
    obtain ⟨rfl, rfl, rfl⟩ := e4
    obtain ⟨rfl, rfl, rfl⟩ := e5
    rfl
theorem okWide_arr {P : Program} {r : Reach} {b0 : Nat} {t e : TypeId} {k : Nat} {v : Value} (ht : P.underlying t = some (.array k e)) (h : Value.okWide P w r b0 t v) : ∃ cs, v = .agg cs := by
  simp only [Value.okWide, ht] at h
  obtain ⟨cs, h1, _⟩ := h
  exact ⟨cs, h1⟩
theorem okWide_str {P : Program} {r : Reach} {b0 : Nat} {t : TypeId} {fs : Array Field} {v : Value} (ht : P.underlying t = some (.struct fs)) (h : Value.okWide P w r b0 t v) : ∃ cs, v = .agg cs := by
  simp only [Value.okWide, ht] at h
  obtain ⟨cs, h1, _⟩ := h
  exact ⟨cs, h1⟩
theorem vr3_to1 {m : LMap} {v : Value} {A : Option Addr} {l k : Nat} (h : VR3 m v (.slice A l k)) : VR1 m v (.slice A l k) := by
  cases h with
  | of2 h => cases h with
    | of1 h => exact h
theorem RD.same {h h' : Heap} {m : LMap} {n : Nat} {W : World} (E : Ent h m n W) {k j : Nat} {v : Value} {cells : List Value} (hr : RD h k v cells j) (hs : ∀ L, L < n → h' L = h L) : RD h' k v cells j :=
  hr.mono fun L b x => by rw [hs L (E.rel.lt E.dom x)]; exact x
/-- A table that came in. -/
theorem table_in {W : World} {h : Heap} {m : LMap} {n : Nat} (E : Ent h m n W) {v : Value} {d : DataW H} {p : List MemPlace} (hv : ∃ cs, v = .agg cs) (hk : DataW.Trod enc Tryd.prog W 0 spare held 27 v d p) :
    ∃ (T : Tb) (lv : Value) (h' : Heap) (m' : LMap) (n' : Nat), Ent h' m' n' W ∧ m.le m' ∧ n ≤ n' ∧ (∀ L, L < n → h' L = h L) ∧ VR3 m' (T.v lv) v ∧ RD h' 2 lv (lnCells T.ls) T.ls.length ∧ (∀ p ∈ T.work, p.Fit) ∧ (∀ e ∈ T.ls, e.Fit) ∧ T.ls.length ≤ 9223372036854775807 := by
  obtain ⟨cs, rfl⟩ := hv
  obtain ⟨fuel, hf⟩ := hk
  obtain ⟨xs, n0, _, _, hl, hxl, hx⟩ := DataW.trod_struct Tryd.underlying27 hf
  have hxl : xs.length = 2 := hxl
  rw [c27] at hl
  have f0 : DataW.trod enc Tryd.prog W 0 spare held n0 24 ((cs.toList.drop 0).take (Tryd.prog.cellsOf 24)) = xs[0]? := hx 0 _ rfl
  have f1 : DataW.trod enc Tryd.prog W 0 spare held n0 25 ((cs.toList.drop 18).take (Tryd.prog.cellsOf 25)) = xs[1]? := hx 1 _ rfl
  rw [List.getElem?_eq_getElem (by omega : 0 < xs.length)] at f0
  rw [List.getElem?_eq_getElem (by omega : 1 < xs.length)] at f1
  simp only [c24, c25] at f0 f1
  obtain ⟨p0, p1, p2, p3, p4, p5, h0, w0⟩ := trod_work f0
  obtain ⟨A0, l0, k0, h1, ls, lv, h', m', n', E', hle, hn, hs, hvr, hro, hfit, few⟩ := rows_in (α := Ln) (cells := Ln.cells) (Fit := Ln.Fit) (k := 2) (by omega) (fun _ => rfl) (fun _ => rfl) Tryd.underlying25 c61 (fun _ _ _ _ h => trod_ln h) E f1
  refine ⟨⟨p0, p1, p2, p3, p4, p5, ls⟩, lv, h', m', n', E', hle, hn, hs, ?_, hro, w0, hfit, few⟩
  obtain ⟨l⟩ := cs
  simp only [Value.cells] at hl h0 h1
  match l, hl with
  | [a0, a1, a2, a3, a4, a5, a6, a7, a8, a9, a10, a11, a12, a13, a14, a15, a16, a17, a18], _ =>
    simp at h0 h1
    obtain ⟨rfl, rfl, rfl, rfl, rfl, rfl, rfl, rfl, rfl, rfl, rfl, rfl, rfl, rfl, rfl, rfl, rfl, rfl⟩ := h0
    subst h1
    have c : ∀ (n : Int) (_ : True), VR1 m' (.int .i64 n) (.int .i64 n) := fun n _ => .of0 (.closed rfl)
    have t := trivial
    exact .of2 (.agg (.cons (c _ t) (.cons (c _ t) (.cons (c _ t) (.cons (c _ t) (.cons (c _ t) (.cons (c _ t) (.cons (c _ t) (.cons (c _ t) (.cons (c _ t) (.cons (c _ t) (.cons (c _ t) (.cons (c _ t) (.cons (c _ t) (.cons (c _ t) (.cons (c _ t) (.cons (c _ t) (.cons (c _ t) (.cons (c _ t) (.cons (vr3_to1 hvr) .nil))))))))))))))))))))
end
/-! ### The variables -/
theorem laid_cells {P : Program} {W : World} {g : Nat} {t e : TypeId} {nm : String} {L : List Int} {k : Nat} (hg : P.globalNamed nm = some g) (ht : (P.globals[g]?).map (·.type) = some t) (hu : P.underlying t = some (.array k e)) (he : P.underlying e = some (.int .u64)) (hce : P.cellsOf e = 1) (hct : P.cellsOf t = k)
    (hL : laidMet P [(nm, .agg (L.map fun n => .lit (.int .u64 n)))] W) : ∃ cs : Array Value, W.var? P nm = some cs ∧ cs.toList = L.map fun n => Value.int .u64 n := by
  obtain ⟨ps, ⟨g', t', cs, fuel, p, q, hg', ht', hvar, hd, _, _⟩, _⟩ := hL
  obtain rfl := Option.some.inj (hg.symm.trans hg')
  obtain rfl := Option.some.inj (ht.symm.trans ht')
  refine ⟨cs, hvar, ?_⟩
  obtain ⟨xs, m, _, hx, hl, hxl, hel⟩ := DataW.trod_array hu hd
  simp only [Prod.mk.injEq, DataW.agg.injEq] at hx
  have hx := hx.1
  have hLk : L.length = k := by
    have := congrArg List.length hx
    simp at this; omega
  rw [hct] at hl
  refine List.ext_getElem? fun i => ?_
  by_cases hi : i < k
  · have f := hel i hi
    rw [hce, Nat.mul_one, List.getElem?_eq_getElem (by omega : i < xs.length)] at f
    obtain ⟨n, e1, e2, _⟩ := DataW.trod_int he f
    have e3 := congrArg (·[i]?) hx
    simp only [List.getElem?_map] at e3
    rw [List.getElem?_eq_getElem (by omega : i < L.length), List.getElem?_eq_getElem (by omega : i < xs.length), e2] at e3
    simp at e3
    have e4 := congrArg (·[0]?) e1
    simp only [List.getElem?_take, List.getElem?_drop, Nat.add_zero, Nat.zero_lt_one, if_true] at e4
    rw [e4]
    simp [List.getElem?_map, List.getElem?_eq_getElem (by omega : i < L.length), e3]
  · rw [List.getElem?_eq_none (by omega), List.getElem?_eq_none (by simp; omega)]
def powL : List Int := (List.range 20).map fun k => ((10 ^ k : Nat) : Int)
abbrev powN : String := "internal/strconv.uint64pow10"
theorem gw_of {l : List (String × DataW Unit)} (hl : (l.filter fun x => x.1 == powN).filter (fun x => x.2.handleName?.isNone) = [(powN, .agg (powL.map fun n => .lit (.int .u64 n)))]) {W : World} (hs : W.ShapedOpen Tryd.prog) (hL : laidMetH Tryd.prog l W) : GW W := by
  have h1 := (laidMetH_iff.1 (hL.filter fun x => x.1 == powN)).1
  rw [hl] at h1
  have hg : Tryd.prog.globalNamed powN = some 0 := by kernel_rfl
  obtain ⟨cs, hv, hc⟩ := laid_cells (t := 124) (e := 98) (k := 20) hg (by kernel_rfl) Tryd.underlying124 Tryd.underlying98 (by kernel_rfl) (by kernel_rfl) h1
  obtain ⟨zero, hz⟩ : ∃ zero, (((begin Tryd.prog (fun _ _ => 0) default).world.heap[0]?).bind Obj.row?) = some (zero, 124) := ⟨((List.range 20).map fun _ => Value.int .u64 0).toArray, by kernel_rfl⟩
  have hsz : Tryd.prog.globals.size = 6 := by kernel_rfl
  obtain ⟨cs', hh, _, _⟩ := hs.1 0 zero 124 (by omega) hz
  have hb := (Array.getElem?_eq_some_iff.1 hh).1
  refine ⟨by show 1 ≤ W.heap.size; omega, fun g b hgb => ?_⟩
  obtain ⟨x1, x2, x3, x4⟩ := GH_mem hgb
  have hg0 : g = 0 := by have : g < 1 := x1; omega
  subst hg0
  obtain rfl : b = ⟨powL.map fun n => .int .u64 n, 124, 0, false⟩ := by
    have e : GH 0 = some ⟨powL.map fun n => .int .u64 n, 124, 0, false⟩ := by kernel_rfl
    rw [hgb] at e; exact Option.some.inj e
  refine ⟨rfl, cs', _, hh, fun j v hj => ?_⟩
  have hc2 := World.var?_cell hg hv j
  unfold World.cell? at hc2
  simp only [hh] at hc2
  simp only at hj
  rw [← hc] at hj
  have e5 : cs.toList[j]? = cs[j]? := by simp
  rw [e5] at hj
  rw [hj] at hc2
  simpa using hc2
theorem returnsInHanded_of_change_and_shaped {H : Type} {enc : TypeId × Value → H} {a : Assume} {C : Checked} {os : Os} {f : FuncId} {fn : Func} {s : ChangeSpec} {conds : List PathCond} {apart fresh handsOn again : Bool} {X : World → Array Value → Prop}
    (hX : ∀ (w w' : World) (args : Array Value), w.heap = w'.heap → X w args → X w' args)
    (own : ownKnob C.prog.godebug = none) (started : os.Started) (noInit : C.prog.inits.idxOf? f = none) (hfn : C.prog.funcs[f]? = some fn)
    (witness : ∃ (w : World) (tape : Tape) (i : Input), w.os = os ∧ (w.forCall tape i).Shaped C.prog ∧ i.vars = [] ∧ Input.okWide C.prog (w.forCall tape i) .any w.heap.size f i ∧
      ((s.pre enc C.prog fn conds apart (w.forCall tape i).memory i.args ∧ X (w.forCall tape i).memory i.args) ∧ sizedMet enc C.prog fn (OpenSpec.ofChange s) apart (w.forCall tape i).memory i.args) ∧ a.holds C.prog (lone (Frame.enter C.prog f i.args .normal) [] (w.forCall tape i)))
    (contract : ∀ (W : World) (base : Nat) (args : Array Value) (ds gs : List (DataW H)) (before : List MemPlace),
      (∀ (j : Nat) t v, fn.params[j]? = some t → args[j]? = some v → Value.okWide C.prog W .any base t v) →
      DataW.Whole enc C.prog fn.params.toList s.vars apart W args.toList ds gs before → X W args → W.ShapedOpen C.prog →
      Calls C.prog f args W fun e W' => ∃ v, e = .returned v ∧ s.post enc C.prog fn apart fresh handsOn again W args v W') :
    ReturnsInHanded a C os f .any (fun w args => (s.pre enc C.prog fn conds apart w args ∧ X w args) ∧ sizedMet enc C.prog fn (OpenSpec.ofChange s) apart w args) (s.post enc C.prog fn apart fresh handsOn again) := by
  refine returnsInHanded_of_calls own started noInit witness ?_
  intro w tape i _ hsh _ hok hpre hholds
  obtain ⟨_, _, _, fn', hfn', _, _, _, _, hval⟩ := hok
  have e : fn' = fn := Option.some.inj (hfn'.symm.trans hfn)
  subst e
  obtain ⟨⟨⟨ds, gs, before, hw, hc⟩, hx⟩, hz⟩ := hpre
  have hw' := DataW.Whole.of_heap (w' := w.forCall tape i) (by rfl) hw
  refine (contract (w.forCall tape i) w.heap.size i.args ds gs before hval hw' (hX _ _ _ (by rfl) hx) hsh).mono fun e W' ⟨v, he, hp⟩ => ?_
  subst he
  exact ChangeSpec.post_blind hp
/-! ### A world that meets the condition -/
mutual
def datCells : DataW Unit → List Value
  | .lit (.int k n) => [.int k n]
  | .agg l => datCellsL l
  | _ => []
def datCellsL : List (DataW Unit) → List Value
  | [] => []
  | d :: r => datCells d ++ datCellsL r
end
noncomputable def laidWorld (l : List (Nat × DataW Unit)) (os : Os) : World :=
  let w0 := World.holding Tryd.prog os ⟨#[], #[], []⟩
  { w0 with heap := l.foldl (fun h x => h.modify x.1 fun
      | .cells _ t frozen => .cells (datCells x.2).toArray t frozen
      | o => o) w0.heap }
theorem own : ownKnob Tryd.prog.godebug = none := by kernel_rfl
theorem laidOut : laidOutB Tryd.prog = true := by kernel_rfl

end Go.Proofs.YtocbmekcokenoaaDoor
/- Walks, part E2. -/
set_option maxRecDepth 100000
set_option maxHeartbeats 4000000
set_option linter.unusedSimpArgs false
set_option linter.unusedVariables false
namespace Go.Proofs.YtocbmekcokenoaaDoor
open Go Go.Dm
attribute [local simp ↓] RunS_nil RunS_op RunS_guard RunT_nil RunT_op RunT_guard opS_call opD_call opS_move opD_move opS_assign opD_assign opS_pick opD_pick opS_nilCheck opD_nilCheck opS_fieldAddr opD_fieldAddr opS_indexAddr opD_indexAddr opS_load opD_load opS_store opD_store opS_alloc opD_alloc opS_box opD_box opS_build opD_build opS_buildSlice opD_buildSlice opS_field opD_field opS_extract opD_extract opS_makeFunc opD_makeFunc opS_slice opD_slice opS_binOp opD_binOp opS_unOp opD_unOp opS_convert opD_convert opS_index opD_index opS_len opD_len opS_append opD_append opS_max opD_max opS_min opD_min opS_makeSlice opD_makeSlice opS_makeInterface opD_makeInterface opS_copy opD_copy opS_data opD_data opS_string opD_string opS_cap opD_cap obind_some obind_none thenH_normal thenH_ret thenH_exit blockA_normal blockA_ret blockA_exit thenA_normal thenA_ret thenA_exit dstAt_mk dstL_zero dstL_succ
attribute [local simp] shB undef wantG_bool wantG_undef findO_some calleeS find putA ev closed3 closed2 closed1 closed0 pickA orE_some orE_none binF binXO binX binB strX unF convF convX convB mxF eqNilA fastBin fastUn fastConv intBin argEnv resultsA resultsL resultA notTuple allocs eff
  loadO storeO allocO boxO sliceO sliceX indexO indexXO indexX indexB lenO lenS capX ifaceO indexAddrA loadA storeA newA isAggT nilCheckA lenA evAll evParts aadd gen upd_at upd_upd Value.cells mxV Pairs apart readsS readB labOf putAt fieldA partA extractA makeFuncA evOpt boundOf sliceA isV0 Nat.add_assoc
attribute [local simp] bu23_z bu23_0_1_2 bu27_z bu27_0_1 bu27_0 bu33_z bu33_0 bu48_0_1 bu61_0_1 bs25_0_z bs25_1_0 bs31_0_z bs31_1_0 bs74_1_0 bs82_3_0_1_2
attribute [local simp ↓] eql23 neq23 eql48 neq48 eql61 neq61 eql24 neq24
attribute [local simp] fa23_0 fa23_1 fa23_2 fa48_0 fa48_1 fa61_0 fa61_1 fa33_0 fa33_1 fa27_0 fa27_1
attribute [local simp] c2 b2 z2 c3 b3 z3 c4 b4 z4 c5 b5 z5 c9 b9 z9 c23 b23 z23 h23 g23 c24 b24 z24 c25 b25 z25 c27 b27 z27 h27 g27 c29 b29 z29 c31 b31 z31 c33 b33 z33 h33 g33 c48 b48 z48 h48 g48 c50 b50 z50 c58 b58 z58 c61 b61 z61 h61 g61 Tryd.underlying2 Tryd.underlying3 Tryd.underlying4 Tryd.underlying5 Tryd.underlying9 Tryd.underlying23 Tryd.underlying24 Tryd.underlying25 Tryd.underlying27 Tryd.underlying29 Tryd.underlying31 Tryd.underlying33 Tryd.underlying48 Tryd.underlying50 Tryd.underlying58 Tryd.underlying61
open Go.ChangeShapes Go.WideShapes Go.ChangeAt Go.RowKit
section
variable {H : Type} {enc : TypeId × Value → H} {w : World} {base : Nat} {spare : Nat → Bool} {held : Bool}
theorem pos_in {v : Value} {d : DataW H} {p : List MemPlace} (hv : ∃ cs, v = .agg cs) (hk : DataW.Trod enc Tryd.prog w 0 spare held 23 v d p) : ∃ q : P3, v = q.v ∧ q.Fit := by
  obtain ⟨cs, rfl⟩ := hv
  obtain ⟨fuel, hf⟩ := hk
  obtain ⟨q, e, hq⟩ := trod_p3 hf
  refine ⟨q, ?_, hq⟩
  obtain ⟨l⟩ := cs
  simp only [Value.cells] at e
  subst e; rfl
theorem pair_in {v : Value} {d : DataW H} {p : List MemPlace} (hv : ∃ cs, v = .agg cs) (hk : DataW.Trod enc Tryd.prog w 0 spare held 50 v d p) : ∃ a b, v = .agg #[.int .i64 a, .int .i64 b] ∧ i64 a ∧ i64 b := by
  obtain ⟨cs, rfl⟩ := hv
  obtain ⟨fuel, hf⟩ := hk
  obtain ⟨xs, n, _, _, hl, hxl, hx⟩ := DataW.trod_array Tryd.underlying50 hf
  rw [c50] at hl
  simp only [c2] at hx
  have g : ∀ i, i < 2 → ∃ a, (cs.toList.drop (i * 1)).take 1 = [.int .i64 a] ∧ i64 a := fun i hi => by
    have f := hx i hi
    rw [List.getElem?_eq_getElem (by omega : i < xs.length)] at f
    exact trod_i64 Tryd.underlying2 f
  obtain ⟨a, ha, wa⟩ := g 0 (by omega)
  obtain ⟨b, hb, wb⟩ := g 1 (by omega)
  obtain ⟨l⟩ := cs
  simp only [Value.cells] at hl ha hb
  match l, hl with
  | [u0, u1], _ =>
    simp at ha hb
    subst ha; subst hb
    exact ⟨a, b, rfl, wa, wb⟩
end

end Go.Proofs.YtocbmekcokenoaaDoor
