/- The pieces of a controller lead through the ends of its motions, and after a resume all of them are done. -/
import Derived.Test.YtoinimkmoojcoaaG7
set_option linter.unusedSimpArgs false
set_option linter.unusedVariables false
namespace Go.Proofs.Ytoinimkmoojcoaa
open Go Go.Dm
/-- Pieces, from the left: behind them stands motion i, at a place. -/
inductive Acc (ms : List Mot) : Nat → P3 → List Mot → Prop
  | start : Acc ms 0 (firstFr ms) []
  | next {i : Nat} {ps : List Mot} : i < ms.length → Acc ms i (ms[i]!).to ps → Acc ms (i + 1) (ms[i]!).to ps
  | step {i : Nat} {at0 : P3} {ps : List Mot} {d : Mot} : i < ms.length → at0 ≠ (ms[i]!).to → d.fr = at0 → d.rate = (ms[i]!).rate → d.tool = (ms[i]!).tool → d.block = (ms[i]!).block → Acc ms i at0 ps → Acc ms i d.to (ps ++ [d])
/-- Pieces, from the right: what is left for the motions from i on. -/
inductive Lead (ms : List Mot) : Nat → P3 → List Mot → Prop
  | done {at0 : P3} : Lead ms ms.length at0 []
  | next {i : Nat} {ps : List Mot} : i < ms.length → Lead ms (i + 1) (ms[i]!).to ps → Lead ms i (ms[i]!).to ps
  | step {i : Nat} {at0 : P3} {ps : List Mot} {d : Mot} : i < ms.length → at0 ≠ (ms[i]!).to → d.fr = at0 → d.rate = (ms[i]!).rate → d.tool = (ms[i]!).tool → d.block = (ms[i]!).block → Lead ms i d.to ps → Lead ms i at0 (d :: ps)
theorem Acc.lead {ms : List Mot} {i : Nat} {p : P3} {ps : List Mot} (h : Acc ms i p ps) : ∀ {qs : List Mot}, Lead ms i p qs → Lead ms 0 (firstFr ms) (ps ++ qs) := by
  induction h with
  | start => intro qs hq; exact hq
  | next hi _ ih => intro qs hq; exact ih (.next hi hq)
  | step hi h1 h2 h3 h4 h5 _ ih => intro qs hq; rw [List.append_assoc]; exact ih (.step hi h1 h2 h3 h4 h5 hq)
theorem Lead.inv {ms : List Mot} {i : Nat} {p : P3} {ps : List Mot} (h : Lead ms i p ps) (hi : i < ms.length) :
    (p = (ms[i]!).to ∧ Lead ms (i + 1) (ms[i]!).to ps) ∨ (p ≠ (ms[i]!).to ∧ ∃ d ps', ps = d :: ps' ∧ d.fr = p ∧ d.rate = (ms[i]!).rate ∧ d.tool = (ms[i]!).tool ∧ d.block = (ms[i]!).block ∧ Lead ms i d.to ps') := by
  cases h with
  | done => omega
  | next _ h => exact .inl ⟨rfl, h⟩
  | step _ h1 h2 h3 h4 h5 h6 => exact .inr ⟨h1, _, _, rfl, h2, h3, h4, h5, h6⟩
def Conn (ms : List Mot) : Prop := ∀ i, i + 1 < ms.length → (ms[i]!).to = (ms[i + 1]!).fr
theorem len_zero {m : Mot} (hn : m.near) (h : m.len = 0) : m.fr = m.to := by
  have hs := Mot.sum_in hn
  have h2 := (lenS_spec (s := m.sum) (by omega)).2.2.1
  rw [show lenS m.sum = 0 from h] at h2
  have h3 : m.sum = 0 := by omega
  have sq : ∀ x : Int, 0 ≤ x * x := fun x => by
    rcases Int.le_total 0 x with h | h
    · exact Int.mul_nonneg h h
    · have := Int.mul_nonneg (a := -x) (b := -x) (by omega) (by omega)
      rwa [Int.neg_mul_neg] at this
  have s1 := sq (m.tx - m.fx)
  have s2 := sq (m.ty - m.fy)
  have s3 := sq (m.tz - m.fz)
  unfold Mot.sum at h3
  have e1 : (m.tx - m.fx) * (m.tx - m.fx) = 0 := by omega
  have e2 : (m.ty - m.fy) * (m.ty - m.fy) = 0 := by omega
  have e3 : (m.tz - m.fz) * (m.tz - m.fz) = 0 := by omega
  have z : ∀ x : Int, x * x = 0 → x = 0 := fun x h => by
    rcases Int.mul_eq_zero.1 h with h | h <;> exact h
  have := z _ e1; have := z _ e2; have := z _ e3
  unfold Mot.fr Mot.to
  rw [show m.fx = m.tx by omega, show m.fy = m.ty by omega, show m.fz = m.tz by omega]
theorem posM_zero {x y l : Int} (hl : 1 ≤ l) : posM x y 0 l = x := by
  unfold posM
  rw [Int.mul_zero, Int.zero_add, Int.ediv_eq_zero_of_lt (by omega) (by omega)]; omega
theorem posM_len {x y l : Int} (hl : 1 ≤ l) : posM x y l l = y := by
  unfold posM
  have e : 2 * (y - x) * l + l = l + (y - x) * (2 * l) := by rw [Int.mul_comm 2 (y - x), Int.mul_assoc]; omega
  rw [e, Int.add_mul_ediv_right _ _ (by omega), Int.ediv_eq_zero_of_lt (by omega) (by omega)]; omega
theorem posM_stay {x y l p q : Int} (hl : 1 ≤ l) (h0 : 0 ≤ p) (h1 : p ≤ q) (h2 : q ≤ l) (h : posM x y p l = y) : posM x y q l = y := by
  have hx := posM_len (x := x) (y := y) hl
  have up : x ≤ y → posM x y p l ≤ posM x y q l ∧ posM x y q l ≤ posM x y l l := by
    intro hxy
    unfold posM
    have m1 : 2 * (y - x) * p ≤ 2 * (y - x) * q := Int.mul_le_mul_of_nonneg_left h1 (by omega)
    have m2 : 2 * (y - x) * q ≤ 2 * (y - x) * l := Int.mul_le_mul_of_nonneg_left h2 (by omega)
    have d1 : (2 * (y - x) * p + l) / (2 * l) ≤ (2 * (y - x) * q + l) / (2 * l) := Int.ediv_le_ediv (by omega) (by omega)
    have d2 : (2 * (y - x) * q + l) / (2 * l) ≤ (2 * (y - x) * l + l) / (2 * l) := Int.ediv_le_ediv (by omega) (by omega)
    omega
  have down : y ≤ x → posM x y l l ≤ posM x y q l ∧ posM x y q l ≤ posM x y p l := by
    intro hxy
    unfold posM
    have m1 : 2 * (y - x) * q ≤ 2 * (y - x) * p := Int.mul_le_mul_of_nonpos_left (by omega) h1
    have m2 : 2 * (y - x) * l ≤ 2 * (y - x) * q := Int.mul_le_mul_of_nonpos_left (by omega) h2
    have d1 : (2 * (y - x) * q + l) / (2 * l) ≤ (2 * (y - x) * p + l) / (2 * l) := Int.ediv_le_ediv (by omega) (by omega)
    have d2 : (2 * (y - x) * l + l) / (2 * l) ≤ (2 * (y - x) * q + l) / (2 * l) := Int.ediv_le_ediv (by omega) (by omega)
    omega
  rcases Int.le_total x y with hxy | hxy
  · have := up hxy; omega
  · have := down hxy; omega
theorem at_zero {m : Mot} (hl : 1 ≤ m.len) : m.at' 0 = m.fr := by simp only [Mot.at', posM_zero hl, Mot.fr]
theorem at_len {m : Mot} (hl : 1 ≤ m.len) : m.at' m.len = m.to := by simp only [Mot.at', posM_len hl, Mot.to]
theorem at_stay {m : Mot} {p q : Int} (hl : 1 ≤ m.len) (h0 : 0 ≤ p) (h1 : p ≤ q) (h2 : q ≤ m.len) (h : m.at' p = m.to) : m.at' q = m.to := by
  simp only [Mot.at', Mot.to, P3.mk.injEq] at *
  exact ⟨posM_stay hl h0 h1 h2 h.1, posM_stay hl h0 h1 h2 h.2.1, posM_stay hl h0 h1 h2 h.2.2⟩
/-- Motions without a length are passed. -/
theorem Acc.skip {ms : List Mot} (hc : Conn ms) (hn : ∀ m ∈ ms, m.near) {p : P3} {ps : List Mot} : ∀ (k i : Nat), i + k ≤ ms.length → (∀ q, i ≤ q → q < i + k → (ms[q]!).len = 0) → (i < ms.length → p = (ms[i]!).fr) → Acc ms i p ps → Acc ms (i + k) p ps ∧ (i + k < ms.length → p = (ms[i + k]!).fr) := by
  intro k
  induction k with
  | zero => intro i _ _ h1 h; exact ⟨h, h1⟩
  | succ k ih =>
    intro i hk hz h1 h
    have hi : i < ms.length := by omega
    have hm : ms[i]! ∈ ms := by rw [getElem!_pos ms i hi]; exact List.getElem_mem _
    have e := len_zero (hn _ hm) (hz i (by omega) (by omega))
    have ep : p = (ms[i]!).to := (h1 hi).trans e
    subst ep
    have := ih (i + 1) (by omega) (fun q h1 h2 => hz q (by omega) (by omega)) (fun h => hc i h) (.next hi h)
    rw [show i + 1 + k = i + (k + 1) by omega] at this
    exact this
structure CS.Path (s : CS) : Prop where
  acc : Acc s.ms s.index.toNat s.last s.pieces
  at0 : s.index < s.ms.length → ∃ p, 0 ≤ p ∧ p ≤ s.part ∧ s.last = s.cur.at' p
  conn : Conn s.ms
  gap : s.resting = true → s.index < s.ms.length → s.part < s.cur.len
theorem CS.pos_at {s : CS} (h : s.index < s.ms.length) (h0 : 0 ≤ s.index) : s.pos = s.cur.at' s.part := by
  unfold CS.pos; rw [if_neg (by omega), if_neg (by omega)]
/-- A controller that passes on to the next motion that has a length. -/
theorem CS.Path.skip {s : CS} (hb : s.Base) (h0 : 0 ≤ s.index) (h1 : s.index ≤ s.ms.length) (hp : s.part = 0) (ha : Acc s.ms s.index.toNat s.last s.pieces) (hl : s.index < s.ms.length → s.last = s.cur.fr) (hc : Conn s.ms) : s.skip.Path := by
  obtain ⟨a, b, c, d⟩ := skip_spec (ms := s.ms) h0 h1
  have hk := ha.skip hc hb.near ((skipL s.ms s.ms.length s.index).toNat - s.index.toNat) s.index.toNat (by omega) (fun q h1 h2 => by have := d q (by omega) (by omega); rwa [show ((q : Int).toNat) = q by omega] at this) (fun h => hl (by omega))
  rw [show s.index.toNat + ((skipL s.ms s.ms.length s.index).toNat - s.index.toNat) = (skipL s.ms s.ms.length s.index).toNat by omega] at hk
  have len1 : skipL s.ms s.ms.length s.index < s.ms.length → 1 ≤ (s.ms[(skipL s.ms s.ms.length s.index).toNat]!).len := fun hi => by
    have hn := hb.near _ (get_mem (i := skipL s.ms s.ms.length s.index) (by omega) hi)
    have hl := Mot.len_in hn
    have := c hi
    omega
  refine ⟨hk.1, fun hi => ⟨0, Int.le_refl 0, by show 0 ≤ s.part; omega, ?_⟩, hc, fun _ hi => ?_⟩
  · have hi : skipL s.ms s.ms.length s.index < s.ms.length := hi
    have e := hk.2 (by omega)
    show s.last = (s.ms[(skipL s.ms s.ms.length s.index).toNat]!).at' 0
    rw [at_zero (len1 hi)]; exact e
  · have := len1 hi
    show s.part < (s.ms[(skipL s.ms s.ms.length s.index).toNat]!).len
    omega
theorem CS.Path.stop {s : CS} (h : s.Ok) (hi : s.index < s.ms.length) (ha : Acc s.ms s.index.toNat s.last s.pieces) (hl : ∃ p, 0 ≤ p ∧ p ≤ s.part ∧ s.last = s.cur.at' p) (hc : Conn s.ms) : s.stop.Path := by
  obtain ⟨p, p0, p1, pe⟩ := hl
  have hpt := h.part hi
  have hpos : s.pos = s.cur.at' s.part := CS.pos_at hi h.idx.1
  have hidx : (s.index.toNat : Nat) < s.ms.length := by have := h.idx.1; omega
  unfold CS.stop
  obtain ⟨e1, e2, e3, e4, e5, e6, e7, e8, e9, e10, e11, e12, e13⟩ := push_eq s.stop1
  have q1 : s.stop1.push.toPos.ms = s.ms := e1
  have q2 : s.stop1.push.toPos.index = s.index := e5
  have q3 : s.stop1.push.toPos.part = s.part := e6
  have q4 : s.stop1.push.toPos.last = s.pos := by
    show s.stop1.push.pos = s.pos
    unfold CS.pos CS.cur; rw [e1, e5, e6]; rfl
  have q5 : s.stop1.push.toPos.pieces = s.pieces ++ (if s.piece.2 then [s.piece.1] else []) := e13
  have hok : s.stop1.push.toPos.Ok := (h.same (t := s.stop1) rfl rfl rfl ⟨rfl, rfl, rfl⟩).push.same rfl rfl rfl ⟨rfl, rfl, rfl⟩
  have hpc : s.piece = (s.seg, decide (¬ s.last = s.pos)) := by unfold CS.piece; rw [if_neg (by omega)]
  have hacc : Acc s.ms s.index.toNat s.pos s.stop1.push.toPos.pieces := by
    rw [q5, hpc]
    by_cases e : s.last = s.pos
    · rw [if_neg (by simpa using e), List.append_nil, ← e]; exact ha
    · rw [if_pos (by simpa using e)]
      refine Acc.step (d := s.seg) hidx (fun hto => e ?_) ?_ rfl rfl rfl ha
      · rw [hto, hpos]
        exact (at_stay hpt.1 p0 p1 hpt.2.2 (pe.symm.trans hto)).symm
      · show P3.mk s.last.x s.last.y s.last.z = s.last; cases s.last; rfl
  generalize s.stop1.push.toPos = t at *
  have hcur : t.cur = s.cur := by unfold CS.cur; rw [q1, q2]
  unfold CS.adv
  split
  · rename_i hz
    rw [hcur, q3] at hz
    have hpe : s.part = s.cur.len := by omega
    have hto : s.pos = s.cur.to := by rw [hpos, hpe, at_len hpt.1]
    have hb : CS.Base { t with index := t.index + 1, part := 0 } := ⟨hok.near, hok.rate, hok.few, hok.lim⟩
    have hcurE : s.cur = s.ms[s.index.toNat]! := rfl
    refine CS.Path.skip hb (by show 0 ≤ t.index + 1; have := hok.idx.1; omega) (by show t.index + 1 ≤ (t.ms.length : Int); rw [q1, q2]; omega) rfl ?_ ?_ (by show Conn t.ms; rw [q1]; exact hc)
    · show Acc t.ms (t.index + 1).toNat t.last t.pieces
      rw [q1, q2, q4, show (s.index + 1).toNat = s.index.toNat + 1 by have := h.idx.1; omega]
      rw [hto, hcurE] at hacc ⊢
      exact .next hidx hacc
    · intro hlt
      have hlt : s.index + 1 < s.ms.length := by have : t.index + 1 < (t.ms.length : Int) := hlt; rw [q1, q2] at this; exact this
      show t.last = (t.ms[(t.index + 1).toNat]!).fr
      rw [q4, hto, q1, q2, show (s.index + 1).toNat = s.index.toNat + 1 by have := h.idx.1; omega]
      exact hc _ (by clear hb; have := h.idx.1; omega)
  · rename_i hz
    rw [hcur, q3] at hz
    refine ⟨by rw [q1, q2, q4]; exact hacc, fun _ => ⟨s.part, hpt.2.1, by rw [q3]; omega, by rw [q4, hcur]; exact hpos⟩, by rw [q1]; exact hc, fun _ _ => by rw [q3, hcur]; omega⟩
theorem CS.Path.keep {s t : CS} (h : s.Path) (h1 : t.ms = s.ms) (h2 : t.index = s.index) (h3 : t.last = s.last) (h4 : t.pieces = s.pieces) (h5 : s.part ≤ t.part) (h6 : t.resting = true → t.index < t.ms.length → t.part < t.cur.len) : t.Path := by
  refine ⟨by rw [h1, h2, h3, h4]; exact h.acc, fun hi => ?_, by rw [h1]; exact h.conn, h6⟩
  obtain ⟨p, p0, p1, pe⟩ := h.at0 (by rw [← h1, ← h2]; exact hi)
  exact ⟨p, p0, by omega, by rw [h3, pe]; unfold CS.cur; rw [h1, h2]⟩
theorem CS.Path.tick {s : CS} (hr : s.Run) (h : s.Path) : s.tick.Path := by
  unfold CS.tick
  split
  · rename_i hm
    obtain ⟨_, hi, hr2, hc⟩ := hr.mv hm
    have hp := hr2.part_le hc
    obtain ⟨c1, c2, c3, c4, c5, c6, c7, c8, c9, c10⟩ := planned_eq s
    unfold CS.rest
    split
    · have hg := hr2.go hc
      have hi2 : s.planned.go.index < s.planned.go.ms.length := by show s.planned.index < (s.planned.ms.length : Int); rw [c1, c5]; exact hi
      obtain ⟨p, p0, p1, pe⟩ := h.at0 hi
      refine CS.Path.stop hg.ok hi2 ?_ ⟨p, p0, ?_, ?_⟩ (by show Conn s.planned.ms; rw [c1]; exact h.conn)
      · show Acc s.planned.ms s.planned.index.toNat s.planned.last s.planned.pieces
        rw [c1, c5, c9, c10]; exact h.acc
      · show p ≤ s.planned.part + s.planned.plan[s.planned.cov.toNat]!
        rw [c6] at *; omega
      · show s.planned.last = (s.planned.ms[s.planned.index.toNat]!).at' p
        rw [c9, c1, c5]; exact pe
    · rename_i hrest
      refine h.keep c1 c5 c9 c10 ?_ (fun hx => absurd hx hrest)
      show s.part ≤ s.planned.part + s.planned.plan[s.planned.cov.toNat]!
      rw [c6] at *; omega
  · exact h
theorem CS.Path.held {s : CS} (h : s.Path) (b : Bool) : CS.Path { s with held := b } := h.keep rfl rfl rfl rfl (Int.le_refl _) h.gap
theorem CS.Path.hold {s : CS} (hr : s.Run) (h : s.Path) : s.hold.Path := by
  unfold CS.hold
  split
  · exact h
  · split
    · rename_i hb
      have h2 := hr.braked hb
      split
      · have hcv : s.cov < s.plan.length := by
          simp only [CS.brakes, Bool.and_eq_true, Bool.not_eq_true', Bool.or_eq_false_iff, decide_eq_true_eq] at hb
          have := hr.cov.2
          have h1 := hb.1.1.1.1
          simp only [CS.resting, decide_eq_false_iff_not] at h1
          omega
        exact CS.Path.stop (s := s.braked) h2.ok (hr.sum hcv).1 h.acc (h.at0 (hr.sum hcv).1) h.conn
      · rename_i hne
        refine h.keep rfl rfl rfl rfl (Int.le_refl _) fun hx => ?_
        simp only [CS.resting, decide_eq_true_eq] at hx
        have hx : (0 : Int) = s.stopping.1.length := hx
        omega
    · exact h.held true
theorem conn_of {ms : List Mot} (h : badM ms = false) : Conn ms := by
  intro i hi
  have := anyFrom_false h ((i + 1 : Nat) : Int) (by omega) (by omega)
  simp only [bad1, Bool.or_eq_false_iff, decide_eq_false_iff_not, Bool.and_eq_false_iff, decide_eq_true_eq, decide_not, Bool.not_eq_eq_eq_not, Bool.not_false] at this
  rcases this.2 with h | h
  · omega
  · rw [show (((i + 1 : Nat) : Int) - 1).toNat = i by omega, show ((i + 1 : Nat) : Int).toNat = i + 1 by omega] at h
    exact h
theorem Right.tot {S A J : Int} {ms : List Mot} (h : rightM S A J ms = true) : totL ms ms.length ≤ 2000 ∧ Conn ms := by
  simp only [rightM, Bool.and_eq_true, decide_eq_true_eq, shortM, Bool.not_eq_true'] at h
  obtain ⟨⟨hv, hc⟩, ⟨h8, hf⟩, ht⟩ := h
  refine ⟨ht, conn_of ?_⟩
  unfold connM at hc
  cases hb : badM ms with
  | false => rfl
  | true => simp [hb] at hc
theorem CS.Path.new {S A J : Int} {ms : List Mot} (h : Right S A J ms) (hc : Conn ms) : (CS.new S A J ms).Path := by
  obtain ⟨h1, h2, h3, h4, h5⟩ := checkM_ok h.check
  have hb : CS.Base ⟨ms, S, A, J, 0, 0, [], 0, false, false, false, [], firstFr ms⟩ := ⟨fars_near' h3, h.rate, by show ms.length ≤ 20000; omega, h1⟩
  refine CS.Path.skip hb (by simp) (by simp) rfl .start (fun hi => ?_) hc
  have hi : (0 : Int) < ms.length := hi
  show firstFr ms = (ms[(0 : Int).toNat]!).fr
  unfold firstFr; rw [if_pos (by omega)]; rfl
/-- How much has been covered. -/
def CS.prog (s : CS) : Int := totL s.ms s.index.toNat + s.part
theorem totL_mono {l : List Mot} (hn : ∀ m ∈ l, m.near) : ∀ (k i : Nat), i + k ≤ l.length → totL l i ≤ totL l (i + k)
  | 0, _, _ => Int.le_refl _
  | k + 1, i, h => by
    have h1 := totL_mono hn k i (by omega)
    have h2 := totL_step (l := l) (i := i + k) (by omega)
    have h3 := (Mot.len_in (hn _ (by rw [getElem!_pos l (i + k) (by omega)]; exact List.getElem_mem _ : l[i + k]! ∈ l))).1
    rw [show i + (k + 1) = i + k + 1 by omega]; omega
theorem CS.prog_skip {s : CS} (hb : s.Base) (h0 : 0 ≤ s.index) (h1 : s.index ≤ s.ms.length) : s.prog ≤ s.skip.prog := by
  obtain ⟨a, b, c, d⟩ := skip_spec (ms := s.ms) h0 h1
  have := totL_mono hb.near ((skipL s.ms s.ms.length s.index).toNat - s.index.toNat) s.index.toNat (by omega)
  rw [show s.index.toNat + ((skipL s.ms s.ms.length s.index).toNat - s.index.toNat) = (skipL s.ms s.ms.length s.index).toNat by omega] at this
  show totL s.ms s.index.toNat + s.part ≤ totL s.ms (skipL s.ms s.ms.length s.index).toNat + s.part
  omega
theorem CS.prog_stop {s : CS} (h : s.Ok) (hi : s.index < s.ms.length) : s.prog ≤ s.stop.prog := by
  unfold CS.stop
  obtain ⟨e1, e2, e3, e4, e5, e6, _⟩ := push_eq s.stop1
  have q1 : s.stop1.push.toPos.ms = s.ms := e1
  have q2 : s.stop1.push.toPos.index = s.index := e5
  have q3 : s.stop1.push.toPos.part = s.part := e6
  have hok : s.stop1.push.toPos.Ok := (h.same (t := s.stop1) rfl rfl rfl ⟨rfl, rfl, rfl⟩).push.same rfl rfl rfl ⟨rfl, rfl, rfl⟩
  generalize s.stop1.push.toPos = t at *
  have hcur : t.cur = s.cur := by unfold CS.cur; rw [q1, q2]
  have hpr : t.prog = s.prog := by unfold CS.prog; rw [q1, q2, q3]
  rw [← hpr]
  unfold CS.adv
  split
  · rename_i hz
    have hb : CS.Base { t with index := t.index + 1, part := 0 } := ⟨hok.near, hok.rate, hok.few, hok.lim⟩
    have hi2 : t.index < t.ms.length := by rw [q1, q2]; exact hi
    have h0 := hok.idx.1
    have := CS.prog_skip hb (by show 0 ≤ t.index + 1; omega) (by show t.index + 1 ≤ (t.ms.length : Int); omega)
    refine Int.le_trans ?_ this
    show totL t.ms t.index.toNat + t.part ≤ totL t.ms (t.index + 1).toNat + 0
    have hs := totL_step (l := t.ms) (i := t.index.toNat) (by omega)
    have hce : t.cur = t.ms[t.index.toNat]! := rfl
    rw [show (t.index + 1).toNat = t.index.toNat + 1 by omega, hs, ← hce]; omega
  · exact Int.le_refl _
theorem CS.prog_tick {s : CS} (hr : s.Run) (hm : s.moves = true) : s.prog + 1 ≤ s.tick.prog := by
  unfold CS.tick
  rw [if_pos hm]
  obtain ⟨_, hi, hr2, hc⟩ := hr.mv hm
  have hp := hr2.part_le hc
  obtain ⟨c1, c2, c3, c4, c5, c6, c7, c8, c9, c10⟩ := planned_eq s
  have hg : s.prog + 1 ≤ s.planned.go.prog := by
    show totL s.ms s.index.toNat + s.part + 1 ≤ totL s.planned.ms s.planned.index.toNat + (s.planned.part + s.planned.plan[s.planned.cov.toNat]!)
    rw [c1, c5, c6]; omega
  unfold CS.rest
  split
  · have hi2 : s.planned.go.index < s.planned.go.ms.length := by show s.planned.index < (s.planned.ms.length : Int); rw [c1, c5]; exact hi
    have := CS.prog_stop (hr2.go hc).ok hi2
    omega
  · exact hg
theorem CS.prog_le {s : CS} (hr : s.Run) (hi : s.index < s.ms.length) : 0 ≤ s.prog ∧ s.prog ≤ totL s.ms s.ms.length := by
  have h0 := hr.ok.idx.1
  have hp := hr.ok.part hi
  have hs := totL_step (l := s.ms) (i := s.index.toNat) (by omega)
  have hm := totL_mono hr.ok.near (s.ms.length - (s.index.toNat + 1)) (s.index.toNat + 1) (by omega)
  rw [show s.index.toNat + 1 + (s.ms.length - (s.index.toNat + 1)) = s.ms.length by omega] at hm
  have h1 := totL_mono hr.ok.near s.index.toNat 0 (by omega)
  have e : totL s.ms 0 = 0 := by simp [totL]
  rw [Nat.zero_add] at h1
  have hce : s.cur = s.ms[s.index.toNat]! := rfl
  rw [← hce] at hs
  unfold CS.prog; omega
theorem totL_cur {s : CS} (hr : s.Run) (hi : s.index < s.ms.length) : s.cur.len ≤ totL s.ms s.ms.length := by
  have h0 := hr.ok.idx.1
  have hs := totL_step (l := s.ms) (i := s.index.toNat) (by omega)
  have hm := totL_mono hr.ok.near (s.ms.length - (s.index.toNat + 1)) (s.index.toNat + 1) (by omega)
  rw [show s.index.toNat + 1 + (s.ms.length - (s.index.toNat + 1)) = s.ms.length by omega] at hm
  have h1 := totL_mono hr.ok.near s.index.toNat 0 (by omega)
  have e : totL s.ms 0 = 0 := by simp [totL]
  rw [Nat.zero_add] at h1
  have hce : s.cur = s.ms[s.index.toNat]! := rfl
  rw [← hce] at hs
  omega
/-- A controller that is neither held nor broken moves until all motions are done. -/
theorem CS.Path.moves {s : CS} (hr : s.Run) (h : s.Path) (hb : s.broken = false) (hh : s.held = false) (ht : totL s.ms s.ms.length ≤ 2000) (hi : s.index < s.ms.length) : s.moves = true := by
  have hp := hr.ok.part hi
  have hl := totL_cur hr hi
  cases hx : s.resting with
  | false =>
    have : ¬ s.index = s.ms.length := by omega
    simp [CS.moves, hx, hb, this]
  | true =>
    have hg := h.gap hx hi
    have hv := lim_valid (r := s.cur.rate) hr.ok.lim
    have h2 : s.steps.2 = 0 := steps_ok hv (by omega) (by omega)
    have hs := steps_sum h2
    have h3 : s.steps.1.length ≠ 0 := by
      intro hz
      have : s.steps.1 = [] := List.eq_nil_of_length_eq_zero hz
      have h4 : s.steps.1.sum = s.cur.len - s.part := hs.2.2.1
      rw [this] at h4; simp at h4; omega
    have : ¬ s.index = s.ms.length := by omega
    simp [CS.moves, hx, hb, hh, this, h2, h3]
theorem goOn_done : ∀ (k : Nat) (s : CS), s.Run → s.Path → s.broken = false → s.held = false → totL s.ms s.ms.length ≤ 2000 → (s.index < s.ms.length → totL s.ms s.ms.length + 1 ≤ s.prog + k) → (goOn k s).index = (goOn k s).ms.length := by
  intro k
  induction k with
  | zero =>
    intro s hr hp hb hh ht hk
    show s.index = s.ms.length
    rcases Int.lt_or_le s.index s.ms.length with h | h
    · have := hk h; have := (CS.prog_le hr h).2; omega
    · have := hr.ok.idx.2; omega
  | succ k ih =>
    intro s hr hp hb hh ht hk
    unfold goOn
    split
    · rename_i hm
      obtain ⟨e1, e2, e3, e4, e5, e6, e7⟩ := tick_eq s
      refine ih s.tick hr.tick (hp.tick hr) (e6.trans hb) (e5.trans hh) (by rw [e1]; exact ht) fun _ => ?_
      have hi := (hr.mv hm).2.1
      have := hk hi
      have := CS.prog_tick hr hm
      rw [e1]; omega
    · rename_i hm
      rcases Int.lt_or_le s.index s.ms.length with h | h
      · exact absurd (hp.moves hr hb hh ht h) hm
      · have := hr.ok.idx.2; omega
theorem goOn_keep : ∀ (k : Nat) (s : CS), s.Run → s.Path → (goOn k s).Run ∧ (goOn k s).Path ∧ (goOn k s).ms = s.ms ∧ (goOn k s).broken = s.broken
  | 0, s, hr, hp => ⟨hr, hp, rfl, rfl⟩
  | k + 1, s, hr, hp => by
    unfold goOn
    split
    · obtain ⟨e1, e2, e3, e4, e5, e6, e7⟩ := tick_eq s
      obtain ⟨a, b, c, d⟩ := goOn_keep k s.tick hr.tick (hp.tick hr)
      exact ⟨a, b, c.trans e1, d.trans e6⟩
    · exact ⟨hr, hp, rfl, rfl⟩
/-- What Done says at the end. -/
theorem CS.Path.end_ {s : CS} (h : s.Path) (hi : s.index = s.ms.length) : s.done = s.pieces ∧ Lead s.ms 0 (firstFr s.ms) s.pieces := by
  have hd : s.piece.2 = false := by unfold CS.piece; rw [if_pos hi]
  refine ⟨by simp [CS.done, hd], ?_⟩
  have := h.acc.lead (qs := []) (by rw [hi]; exact .done)
  rwa [List.append_nil] at this
end Go.Proofs.Ytoinimkmoojcoaa
/- Walks, part R1. -/
set_option maxRecDepth 100000
set_option maxHeartbeats 4000000
set_option linter.unusedSimpArgs false
set_option linter.unusedVariables false
namespace Go.Proofs.Ytoinimkmoojcoaa
open Go Go.Dm
attribute [local simp ↓] RunS_nil RunS_op RunS_guard RunT_nil RunT_op RunT_guard opS_call opD_call opS_move opD_move opS_assign opD_assign opS_pick opD_pick opS_nilCheck opD_nilCheck opS_fieldAddr opD_fieldAddr opS_indexAddr opD_indexAddr opS_load opD_load opS_store opD_store opS_alloc opD_alloc opS_box opD_box opS_build opD_build opS_buildSlice opD_buildSlice opS_field opD_field opS_extract opD_extract opS_makeFunc opD_makeFunc opS_slice opD_slice opS_binOp opD_binOp opS_unOp opD_unOp opS_convert opD_convert opS_index opD_index opS_len opD_len opS_append opD_append opS_max opD_max opS_min opD_min obind_some obind_none thenH_normal thenH_ret thenH_exit blockA_normal blockA_ret blockA_exit thenA_normal thenA_ret thenA_exit dstAt_mk dstL_zero dstL_succ
attribute [local simp] undef wantG_bool wantG_undef findO_some calleeS find putA ev closed3 closed2 closed1 closed0 pickA binF unF convF mxF eqNilA fastBin fastUn fastConv intBin argEnv resultsA resultsL resultA notTuple allocs eff
  loadO storeO allocO boxO sliceO indexO indexAddrA loadA storeA newA isAggT nilCheckA lenA evAll evParts aadd gen upd_at upd_upd Value.cells mxV Pairs apart readsS labOf putAt fieldA partA extractA makeFuncA evOpt boundOf sliceA Nat.add_assoc
attribute [local simp] bu107_z bu107_0_1 bu25_0_1_2 bu36_z bu36_0_1 bu36_0_1_2 bu36_0 bu38_z bu38_0_1_2_3_4 bu38_0_1_3 bu38_0_1_3_4 bu38_1_2 bu38_1_2_3 bu52_0_1_10 bu81_0_1 bs22_0_z bs22_1_0 bs22_2_0_1 bs39_1_0 bs39_7_0_1_2_3_4_5_6 bs95_4_0_1_2_3
attribute [local simp ↓] eql107 neq107 eql36 neq36 eql38 neq38 eql25 neq25
attribute [local simp] fa25_0 fa25_1 fa25_2 fa36_0 fa36_1 fa36_2 fa38_0 fa38_1 fa38_2 fa38_3 fa38_4 fa107_0 fa107_1 fa81_0 fa81_1 fa81_2 fa81_3 fa81_4 fa81_5 fa81_6 fa81_7 fa81_8 fa81_9 fa81_10 fa52_0 fa52_1 fa52_2 fa52_3 fa52_4 fa52_5 fa52_6 fa52_7 fa52_8 fa52_9 fa52_10 fa52_11 fa52_12
attribute [local simp] c22 c39 c29 z22 z39 c25 c38 c2 c3 c4 c36 c107 c30 z25 z38 z2 z3 z4 z36 z107 b38 b25 b107 h38 h25 h36 h107 g38 g25 g36 g107 Try.underlying25 Try.underlying38 Try.underlying2 Try.underlying3 Try.underlying4 Try.underlying36 Try.underlying22 Try.underlying39 Try.underlying29 Try.underlying81 Try.underlying107 Try.underlying30
attribute [local simp] mx mn
theorem GS.appendAny {h : Heap} {s : Value} {cells : List Value} {m lo hi : Nat} (hg : GS h 38 9 s cells m lo hi) {Ax : Option Addr} {k dx : Nat} {xs : List Value} (hx : sliceCells Try.prog h 9 (.slice Ax k dx) = some xs) (hl : xs.length = k * 9) {L : Nat} (hL : hi ≤ L) (hlo : lo ≤ L) (hroom : m + k ≤ 1000000000000) :
    ∃ s' E, appendA Try.prog h 22 s (.slice Ax k dx) L = some (s', E) ∧ (∀ L', (L' < lo ∨ L < L' ∨ hi ≤ L' ∧ L' ≠ L) → eff h E L' = h L') ∧ L ≤ allocs L E ∧ allocs L E ≤ L + 1 ∧ GS (eff h E) 38 9 s' (cells ++ xs) (m + k) lo (allocs L E) := by
  by_cases hk : k = 0
  · subst hk
    have : xs = [] := List.eq_nil_of_length_eq_zero (by omega)
    subst this
    obtain ⟨A, c, e⟩ := hg.val
    refine ⟨s, none, ?_, fun _ _ => rfl, Nat.le_refl _, Nat.le_succ _, ?_⟩
    · subst e; unfold appendA
      simp only [Try.underlying22, c38, if_pos (show 0 < 9 by omega), if_true]
    · rw [List.append_nil]; exact hg.frame (fun _ _ _ => rfl) hL
  rcases hg with ⟨rfl, rfl, rfl⟩ | ⟨h1, L1, sp, rfl, h3, h4, h5, h6⟩
  · refine ⟨.slice (some ⟨L, 0, none⟩) k 11, some (L, ⟨xs, 38, 0, true⟩), ?_, ?_, ?_, ?_, ?_⟩
    · unfold appendA
      simp only [Try.underlying22, c38, if_pos (show 0 < 9 by omega), if_neg hk, hx, z38, b38]
      have e0 : sliceCells Try.prog h 9 (.slice none 0 0) = some [] := rfl
      rw [e0]
      simp; omega
    · intro L' hL'; simp only [eff, upd_at]; rw [if_neg (by omega)]
    · simp [allocs]
    · simp [allocs]
    · exact .inr ⟨by omega, L, none, by simp, by simp [eff, upd_at], by simp; omega, hlo, by simp [allocs]⟩
  · have hos : sliceCells Try.prog h 9 (.slice (some ⟨L1, 0, sp⟩) m 11) = some cells := by
      obtain ⟨m, rfl⟩ : ∃ j, m = j + 1 := ⟨m - 1, by omega⟩
      simp only [sliceCells, h3, gen]
      simp [h4]
      rw [← h4]; exact List.take_length
    have hne : ¬ L1 = L := by omega
    refine ⟨.slice (some ⟨L1, 0, some (sp.getD 0 + 1)⟩) (m + k) 11, some (L1, ⟨cells ++ xs, 38, sp.getD 0 + 1, true⟩), ?_, ?_, ?_, ?_, ?_⟩
    · unfold appendA
      simp only [Try.underlying22, c38, if_pos (show 0 < 9 by omega), if_neg hk, hx, hos, z38, b38]
      rw [if_pos ⟨by first | trivial | rfl, by omega, by omega⟩, if_neg (by simp), if_pos ⟨by first | trivial | rfl, h1⟩]
      simp [h3, h4]
    · intro L' hL'; simp only [eff, upd_at]; rw [if_neg (by omega)]
    · simp [allocs, hne]
    · simp [allocs, hne]
    · refine .inr ⟨by omega, L1, some (sp.getD 0 + 1), rfl, by simp [eff, upd_at], by simp [h4, hl, Nat.add_mul], h5, ?_⟩
      simp [allocs, hne]; omega
theorem motCells_drop : ∀ (l : List Mot) (i : Nat), (motCells l).drop (i * 9) = motCells (l.drop i)
  | l, 0 => by simp
  | [], i + 1 => by simp [motCells]
  | m :: l, i + 1 => by
    have := motCells_drop l i
    simp only [motCells, List.flatMap_cons, List.drop_succ_cons] at *
    rw [List.drop_append, List.drop_eq_nil_of_le (by simp [Mot.cells]; omega)]
    rw [show (i + 1) * 9 - m.cells.length = i * 9 by simp [Mot.cells]; omega]
    simpa using this
/-- The rest of a slice. -/
theorem RO.drop {h : Heap} {v : Value} {l : List Mot} (hr : RO h 9 v (motCells l) l.length) {i : Int} (h0 : 0 ≤ i) (h1 : i ≤ l.length) :
    ∃ sv, sliceA Try.prog 22 v (some (.int .i64 i)) none = some sv ∧ RO h 9 sv (motCells (l.drop i.toNat)) (l.drop i.toNat).length := by
  obtain ⟨hl, A, c, rfl, hn, hp⟩ := hr
  obtain ⟨j, rfl⟩ : ∃ j : Nat, i = j := ⟨i.toNat, by omega⟩
  have hj : j ≤ l.length := by omega
  simp only [Int.toNat_natCast]
  unfold sliceA
  simp only [Try.underlying22, boundOf, c38]
  rw [if_pos ⟨by omega, h0, h1, by omega⟩]
  by_cases he : j = l.length
  · have hd : l.drop j = [] := by rw [he]; simp
    rw [hd, if_pos (by omega)]
    cases A with
    | none => exact ⟨_, rfl, RO.nil⟩
    | some a => exact ⟨_, rfl, rfl, _, _, rfl, fun h => (nomatch h), fun h => absurd h (by simp)⟩
  · rw [if_neg (by omega)]
    obtain ⟨a, b, rfl, x2, x3, x4, x5, x6⟩ := hp (by omega)
    have key : ∀ c2, RO h 9 (.slice (some (aadd a (j * 9))) (l.drop j).length c2) (motCells (l.drop j)) (l.drop j).length := by
      intro c2
      refine ⟨by rw [motCells_length], some (aadd a (j * 9)), c2, rfl, fun h => (nomatch h), fun _ => ⟨aadd a (j * 9), b, rfl, x2, x3, x4, ?_, ?_⟩⟩
      · simp [aadd]; omega
      · rw [← motCells_drop, ← x6]
        simp only [aadd, List.length_drop]
        rw [List.drop_take, List.drop_drop]
        congr 1
        omega
    refine ⟨_, rfl, ?_⟩
    rw [show ((l.length : Int) - (j : Int)).toNat = (l.drop j).length by simp <;> omega]
    exact key _
def begM (l : List Mot) (i : Int) (at0 : P3) : P3 := if i < l.length then (l[i.toNat]!).fr else if 0 < l.length then (l[l.length - 1]!).to else at0
theorem w63 {h : Heap} {lv : Value} {l : List Mot} (hr : RO h 9 lv (motCells l) l.length) (few : l.length ≤ 1000000) {i : Int} (h0 : 0 ≤ i) (at0 : P3) (n : Nat) :
    Dm.Spec Try.prog 63 [lv, .int .i64 i, at0.v] h n fun r' h' n' => r' = (begM l i at0).v ∧ h' = h ∧ n' = n := by
  refine pureAt Try.func63 rfl (by kernel_rfl) Try.ntmps63 (by rw [Try.results63]) (Nat.le_of_ble_eq_true rfl) ?_
  refine Sat.lt fun hlt => ?_
  obtain ⟨Ad, cd, rfl⟩ := hr.len
  refine Sat.sq ?_
  refine Sat.reg (by kernel_rfl) ?_
  simp -dsimp
  refine Sat.sq ?_
  refine Sat.sq ?_
  refine Sat.reg (by kernel_rfl) ?_
  simp -dsimp
  refine Sat.ite rfl (fun hc => ?_) (fun hc => ?_)
  · have hc : i < l.length := by simpa using hc
    obtain ⟨B, o, sp, b, hB, hbo, am⟩ := hr.mot h0 hc
    have hb : begM l i at0 = (l[i.toNat]!).fr := by simp only [begM, if_pos hc]
    rw [hb]
    generalize l[i.toNat]! = m at *
    have nB := ne2 (show B < n from hlt B b hB)
    have nB1 := ne2 (show B < n + 1 by have := hlt B b hB; omega)
    refine Sat.sq ?_
    refine Sat.reg (by kernel_rfl) ?_
    simp -dsimp [-indexAddrA, am.idx, ↓am.l36, hB, nB, nB1]
    refine Sat.ret ?_
    try simp -dsimp only [thenH_ret, blockA_ret, thenA_ret]
    refine PureQ.ret (r := m.fr.v) (by rfl) ?_ (by simp [Mot.fr])
    repeat (first | exact keep_refl | refine keep_upd (by omega) ?_)
  have hc : ¬ i < l.length := by simpa using hc
  refine Sat.skip ?_
  simp -dsimp
  refine Sat.sq ?_
  refine Sat.sq ?_
  refine Sat.reg (by kernel_rfl) ?_
  simp -dsimp
  refine Sat.ite rfl (fun hz => ?_) (fun hz => ?_)
  · have hz : 0 < l.length := by
      have : (0 : Int) < l.length := by simpa using hz
      omega
    have hb : begM l i at0 = (l[l.length - 1]!).to := by simp only [begM, if_neg hc, if_pos hz]
    obtain ⟨B, o, sp, b, hB, hbo, am⟩ := hr.mot (i := (l.length : Int) - 1) (by omega) (by omega)
    rw [show ((l.length : Int) - 1).toNat = l.length - 1 by omega] at am
    rw [hb]
    have W : IntKind.i64.wrap ((l.length : Int) - 1) = (l.length : Int) - 1 := wrap_in (by omega) (by omega)
    generalize l[l.length - 1]! = m at *
    have nB := ne2 (show B < n from hlt B b hB)
    have nB1 := ne2 (show B < n + 1 by have := hlt B b hB; omega)
    refine Sat.sq ?_
    refine Sat.reg (by kernel_rfl) ?_
    simp -dsimp [W, -indexAddrA, am.idx, ↓am.l36', hB, nB, nB1]
    refine Sat.ret ?_
    try simp -dsimp only [thenH_ret, blockA_ret, thenA_ret]
    refine PureQ.ret (r := m.to.v) (by rfl) ?_ (by simp [Mot.to])
    repeat (first | exact keep_refl | refine keep_upd (by omega) ?_)
  · have hz : ¬ 0 < l.length := by
      have : ¬ (0 : Int) < l.length := by simpa using hz
      omega
    have hb : begM l i at0 = at0 := by simp only [begM, if_neg hc, if_neg hz]
    rw [hb]
    refine Sat.skip ?_
    simp -dsimp
    refine Sat.sq ?_
    refine Sat.reg (by kernel_rfl) ?_
    simp -dsimp
    refine Sat.ret ?_
    try simp -dsimp only [thenH_ret, blockA_ret, thenA_ret]
    refine PureQ.ret (r := at0.v) (by rfl) ?_ (by simp)
    repeat (first | exact keep_refl | refine keep_upd (by omega) ?_)
/-- The rate of a motion, or of the last one before it that has one. -/
def rateL (l : List Mot) : Nat → Int → Int
  | 0, _ => 0
  | k + 1, i => if 0 ≤ i then (if (l[i.toNat]!).rate = 0 then rateL l k (i - 1) else (l[i.toNat]!).rate) else 0
def rateM (l : List Mot) (i : Int) : Int := rateL l (l.length + 1) (min i (l.length - 1))
theorem rateL_neg (l : List Mot) (k : Nat) {i : Int} (h : ¬ 0 ≤ i) : rateL l k i = 0 := by cases k <;> simp [rateL, h]
theorem w64 {h : Heap} {lv : Value} {l : List Mot} (hr : RO h 9 lv (motCells l) l.length) (few : l.length ≤ 1000000) {i : Int} (h0 : 0 ≤ i) (n : Nat) :
    Dm.Spec Try.prog 64 [lv, .int .i64 i] h n fun r' h' n' => r' = .int .i64 (rateM l i) ∧ h' = h ∧ n' = n := by
  refine pureAt Try.func64 rfl (by kernel_rfl) Try.ntmps64 (by rw [Try.results64]) (Nat.le_of_ble_eq_true rfl) ?_
  obtain ⟨Ad, cd, rfl⟩ := hr.len
  have W : IntKind.i64.wrap ((l.length : Int) - 1) = (l.length : Int) - 1 := wrap_in (by omega) (by omega)
  refine Sat.sq ?_
  refine Sat.reg (by kernel_rfl) ?_
  simp -dsimp
  refine Sat.sq ?_
  refine Sat.sq ?_
  refine Sat.reg (by kernel_rfl) ?_
  simp -dsimp [W]
  refine Sat.block ?_
  refine Sat.loop (ι := Nat × Int) (fun j T h' n' => find T 0 = some (.slice Ad l.length cd) ∧ find T 5 = some (.int .i64 j.2) ∧ h' = h ∧ n' = n ∧ -1 ≤ j.2 ∧ j.2 < l.length ∧ j.2 < j.1 ∧ rateL l j.1 j.2 = rateM l i) (fun j => j.1) (l.length + 1, min i (l.length - 1)) ?_ ?_
  · simp -dsimp
    refine ⟨by omega, by omega, by omega, by simp [rateM]⟩
  · rintro ⟨k, j⟩ T h' n' ⟨t0, t5, rfl, rfl, j0, j1, jk, he⟩
    simp only at t5 j0 j1 jk he
    refine Sat.sq ?_
    refine Sat.sq ?_
    refine Sat.reg (by kernel_rfl) ?_
    simp -dsimp [t5]
    refine Sat.ite rfl (fun hc => ?_) (fun hc => ?_)
    · have hc : 0 ≤ j := by simpa using hc
      obtain ⟨k, rfl⟩ : ∃ k', k = k' + 1 := ⟨k - 1, by omega⟩
      obtain ⟨B, o, sp, b, hB, hbo, am⟩ := hr.mot hc j1
      rw [rateL, if_pos hc] at he
      generalize l[j.toNat]! = m at *
      refine Sat.skip ?_
      simp -dsimp
      refine Sat.sq ?_
      refine Sat.block ?_
      refine Sat.sq ?_
      refine Sat.reg (by kernel_rfl) ?_
      simp -dsimp [t0, t5, -indexAddrA, am.idx, ↓am.l2, hB]
      refine Sat.ite rfl (fun hz => ?_) (fun hz => ?_)
      · have hz : ¬ m.rate = 0 := by simpa using hz
        rw [if_neg hz] at he
        refine Sat.sq ?_
        refine Sat.reg (by kernel_rfl) ?_
        simp -dsimp [t0, t5, -indexAddrA, am.idx, ↓am.l2, hB]
        refine Sat.ret ?_
        try simp -dsimp only [thenH_ret, blockA_ret, thenA_ret]
        refine PureQ.ret (r := .int .i64 (rateM l i)) (by rfl) keep_refl ?_
        simp [he]
      · have hz : m.rate = 0 := by simpa using hz
        rw [if_pos hz] at he
        have W2 : IntKind.i64.wrap (j - 1) = j - 1 := wrap_in (by omega) (by omega)
        refine Sat.skip ?_
        simp -dsimp
        refine Sat.reg (by kernel_rfl) ?_
        simp -dsimp [t0, t5, W2]
        exact ⟨k, ⟨by omega, by omega, by omega, he⟩, by omega⟩
    · have hc : ¬ 0 ≤ j := by simpa using hc
      rw [rateL_neg l k hc] at he
      refine Sat.exit ?_
      simp -dsimp
      refine Sat.sq ?_
      refine Sat.reg (by kernel_rfl) ?_
      simp -dsimp
      refine Sat.ret ?_
      try simp -dsimp only [thenH_ret, blockA_ret, thenA_ret]
      refine PureQ.ret (r := .int .i64 (rateM l i)) (by rfl) keep_refl ?_
      simp [← he]

end Go.Proofs.Ytoinimkmoojcoaa
/- Walks, part R2. -/
set_option maxRecDepth 100000
set_option maxHeartbeats 4000000
set_option linter.unusedSimpArgs false
set_option linter.unusedVariables false
namespace Go.Proofs.Ytoinimkmoojcoaa
open Go Go.Dm
attribute [local simp ↓] RunS_nil RunS_op RunS_guard RunT_nil RunT_op RunT_guard opS_call opD_call opS_move opD_move opS_assign opD_assign opS_pick opD_pick opS_nilCheck opD_nilCheck opS_fieldAddr opD_fieldAddr opS_indexAddr opD_indexAddr opS_load opD_load opS_store opD_store opS_alloc opD_alloc opS_box opD_box opS_build opD_build opS_buildSlice opD_buildSlice opS_field opD_field opS_extract opD_extract opS_makeFunc opD_makeFunc opS_slice opD_slice opS_binOp opD_binOp opS_unOp opD_unOp opS_convert opD_convert opS_index opD_index opS_len opD_len opS_append opD_append opS_max opD_max opS_min opD_min obind_some obind_none thenH_normal thenH_ret thenH_exit blockA_normal blockA_ret blockA_exit thenA_normal thenA_ret thenA_exit dstAt_mk dstL_zero dstL_succ
attribute [local simp] undef wantG_bool wantG_undef findO_some calleeS find putA ev closed3 closed2 closed1 closed0 pickA binF unF convF mxF eqNilA fastBin fastUn fastConv intBin argEnv resultsA resultsL resultA notTuple allocs eff
  loadO storeO allocO boxO sliceO indexO indexAddrA loadA storeA newA isAggT nilCheckA lenA evAll evParts aadd gen upd_at upd_upd Value.cells mxV Pairs apart readsS labOf putAt fieldA partA extractA makeFuncA evOpt boundOf sliceA Nat.add_assoc
attribute [local simp] bu107_z bu107_0_1 bu25_0_1_2 bu36_z bu36_0_1 bu36_0_1_2 bu36_0 bu38_z bu38_0_1_2_3_4 bu38_0_1_3 bu38_0_1_3_4 bu38_1_2 bu38_1_2_3 bu52_0_1_10 bu81_0_1 bs22_0_z bs22_1_0 bs22_2_0_1 bs39_1_0 bs39_7_0_1_2_3_4_5_6 bs95_4_0_1_2_3
attribute [local simp ↓] eql107 neq107 eql36 neq36 eql38 neq38 eql25 neq25
attribute [local simp] fa25_0 fa25_1 fa25_2 fa36_0 fa36_1 fa36_2 fa38_0 fa38_1 fa38_2 fa38_3 fa38_4 fa107_0 fa107_1 fa81_0 fa81_1 fa81_2 fa81_3 fa81_4 fa81_5 fa81_6 fa81_7 fa81_8 fa81_9 fa81_10 fa52_0 fa52_1 fa52_2 fa52_3 fa52_4 fa52_5 fa52_6 fa52_7 fa52_8 fa52_9 fa52_10 fa52_11 fa52_12
attribute [local simp] c22 c39 c29 z22 z39 c25 c38 c2 c3 c4 c36 c107 c30 z25 z38 z2 z3 z4 z36 z107 b38 b25 b107 h38 h25 h36 h107 g38 g25 g36 g107 Try.underlying25 Try.underlying38 Try.underlying2 Try.underlying3 Try.underlying4 Try.underlying36 Try.underlying22 Try.underlying39 Try.underlying29 Try.underlying81 Try.underlying107 Try.underlying30
attribute [local simp] mx mn
def likeM (l : List Mot) (i : Int) : Mot := if i < l.length then l[i.toNat]! else if 0 < l.length then l[l.length - 1]! else ⟨0, 0, 0, 0, 0, 0, 0, 0, 0⟩
/-- The places of the way back. -/
def ptR (a b : P3) (safe : Int) : Nat → P3
  | 0 => a
  | 1 => ⟨a.x, a.y, safe⟩
  | 2 => ⟨b.x, b.y, safe⟩
  | 3 => ⟨b.x, b.y, max b.z 1000⟩
  | _ => b
def legMot (a b : P3) (safe rate tool block : Int) (j : Nat) : Mot := ⟨(ptR a b safe j).x, (ptR a b safe j).y, (ptR a b safe j).z, (ptR a b safe (j + 1)).x, (ptR a b safe (j + 1)).y, (ptR a b safe (j + 1)).z, if j = 3 then rate else 0, tool, block⟩
def legsTo (a b : P3) (safe rate tool block : Int) : Nat → List Mot
  | 0 => []
  | j + 1 => legsTo a b safe rate tool block j ++ (if ptR a b safe j = ptR a b safe (j + 1) then [] else [legMot a b safe rate tool block j])
def restM (l : List Mot) (i : Int) (a : P3) (safe : Int) : List Mot × Int :=
  if i < 0 ∨ l.length < i then ([], 1) else
  let b := begM l i a
  if safe < a.z ∨ safe < b.z ∨ safe < 1000 then ([], 1) else
  if a = b then (l.drop i.toNat, 0) else
  if b.z < 1000 ∧ rateM l i = 0 then ([], 13) else
  (legsTo a b safe (rateM l i) (likeM l i).tool (likeM l i).block 4 ++ l.drop i.toNat, 0)
def restPost (l : List Mot) (i : Int) (a : P3) (safe : Int) (h : Heap) (n : Nat) (r : Value) (h' : Heap) (n' : Nat) : Prop :=
  n ≤ n' ∧ (∀ L, L < n → h' L = h L) ∧ ∃ s, r = .tuple #[s, .int .i64 (restM l i a safe).2] ∧ RO h' 9 s (motCells (restM l i a safe).1) (restM l i a safe).1.length
theorem legsTo_len (a b : P3) (safe rate tool block : Int) : ∀ j, (legsTo a b safe rate tool block j).length ≤ j
  | 0 => by simp [legsTo]
  | j + 1 => by have := legsTo_len a b safe rate tool block j; simp only [legsTo]; split <;> simp <;> omega
abbrev wayC (a b : P3) (safe : Int) : List Value := [.int .i64 a.x, .int .i64 a.y, .int .i64 safe, .int .i64 b.x, .int .i64 b.y, .int .i64 safe, .int .i64 b.x, .int .i64 b.y, .int .i64 (max b.z 1000), .int .i64 b.x, .int .i64 b.y, .int .i64 b.z]
theorem way_at {h : Heap} {W : Nat} {a b : P3} {safe : Int} {o : Bool} (hW : h W = some ⟨wayC a b safe, 36, 0, o⟩) (j : Nat) (hj : j < 4) : loadA Try.prog h 36 ⟨W, j * 3, none⟩ = some (ptR a b safe (j + 1)).v := by
  unfold loadA
  simp only [Try.underlying36, hW, gen, isAggT, c36, if_true]
  match j, hj with
  | 0, _ => simp [ptR]
  | 1, _ => simp [ptR]
  | 2, _ => simp [ptR]
  | 3, _ => simp [ptR]
theorem GS.toRO {h : Heap} {e k m lo hi : Nat} {s : Value} {cells : List Value} (hg : GS h e k s cells m lo hi) : RO h k s cells m ∨ ∃ L b, h L = some b ∧ lo ≤ L ∧ L < hi ∧ RO (upd h L { b with own := false }) k s cells m := by
  rcases hg with ⟨rfl, rfl, rfl⟩ | ⟨h1, L, sp, h2, h3, h4, h5, h6⟩
  · exact .inl RO.nil
  · refine .inr ⟨L, _, h3, h5, h6, h4, some ⟨L, 0, sp⟩, k + 2, h2, (fun h => nomatch h), fun _ => ⟨⟨L, 0, sp⟩, ⟨cells, e, sp.getD 0, false⟩, rfl, by rw [upd_at, if_pos rfl], rfl, rfl, by simp [h4], by simp [← h4]⟩⟩
theorem Fz.freeze {h : Heap} {L : Nat} {b : Blk} (hb : h L = some b) : Fz h (Dm.upd h L { b with own := false }) := by
  intro L' b' x y
  rw [upd_at]; split
  · rename_i e; subst e; rw [hb] at x; cases x; congr 1; cases b; simp_all
  · exact x
abbrev u26_6 : List (Nat × Nat) := [(8, 9)]
abbrev u26_8 : List (Nat × Nat) := [(12, 13)]
theorem w26 {h : Heap} {lv : Value} {l : List Mot} (hr : RO h 9 lv (motCells l) l.length) (few : l.length ≤ 1000000) (i : Int) (a : P3) (safe : Int) (n : Nat) :
    Dm.Spec Try.prog 26 [lv, .int .i64 i, a.v, .int .i64 safe] h n (restPost l i a safe h n) := by
  refine Spec.body Try.func26 rfl (by kernel_rfl) Try.ntmps26 (by rw [Try.results26]) (Nat.le_of_ble_eq_true rfl) ?_
  refine Sat.lt fun hlt => ?_
  obtain ⟨Ad, cd, rfl⟩ := hr.len
  have hk1 : ∀ L, L < n → upd h n ⟨[.int .i64 a.x, .int .i64 a.y, .int .i64 a.z], 36, 0, true⟩ L = h L := keep_upd (by omega) keep_refl
  refine Sat.sq ?_
  refine Sat.reg (by kernel_rfl) ?_
  simp -dsimp
  refine Sat.sq ?_
  refine Sat.sq ?_
  refine Sat.reg (by kernel_rfl) ?_
  by_cases hi0 : i < 0
  · have hm : restM l i a safe = ([], 1) := by simp [restM, hi0]
    simp -dsimp [hi0]
    refine Sat.cond (t := true) (by rfl) ?_
    refine Sat.sq ?_
    refine Sat.reg (by kernel_rfl) ?_
    simp -dsimp
    refine Sat.ret ?_
    try simp -dsimp only [thenH_ret, blockA_ret, thenA_ret]
    exact RetQ.ret (r := .tuple #[.slice none 0 0, .int .i64 1]) (by rfl) ⟨by omega, hk1, _, by rw [hm], by rw [hm]; exact RO.nil⟩
  by_cases hi1 : (l.length : Int) < i
  · have hm : restM l i a safe = ([], 1) := by simp [restM, hi1]
    simp -dsimp [hi0, hi1]
    refine Sat.cond (t := true) (by rfl) ?_
    refine Sat.sq ?_
    refine Sat.reg (by kernel_rfl) ?_
    simp -dsimp
    refine Sat.ret ?_
    try simp -dsimp only [thenH_ret, blockA_ret, thenA_ret]
    exact RetQ.ret (r := .tuple #[.slice none 0 0, .int .i64 1]) (by rfl) ⟨by omega, hk1, _, by rw [hm], by rw [hm]; exact RO.nil⟩
  simp -dsimp [hi0, hi1]
  refine Sat.cond (t := false) (by rfl) ?_
  refine Sat.skip ?_
  simp -dsimp
  refine Sat.sq ?_
  refine Sat.reg (by kernel_rfl) ?_
  simp -dsimp
  refine Sat.sq ?_
  refine Sat.reg (by kernel_rfl) ?_
  simp -dsimp
  refine Sat.join (fun T h' n' => find T 0 = some (.slice Ad l.length cd) ∧ find T 1 = some (.int .i64 i) ∧ find T 3 = some (.int .i64 safe) ∧ find T 6 = some (.pointer (some ⟨n, 0, none⟩)) ∧ find T 10 = some (.pointer (some ⟨n + 1, 0, none⟩)) ∧ find T 11 = some (.pointer (some ⟨n + 2, 0, none⟩)) ∧
    h' = upd (upd (upd h n ⟨[.int .i64 a.x, .int .i64 a.y, .int .i64 a.z], 36, 0, true⟩) (n + 1) ⟨[.int .i64 (begM l i a).x, .int .i64 (begM l i a).y, .int .i64 (begM l i a).z], 36, 0, true⟩) (n + 2) ⟨(likeM l i).cells, 38, 0, true⟩ ∧ n' = n + 3) ?_ ?_
  · refine Sat.block ?_
    refine Sat.sq ?_
    refine Sat.reg (by kernel_rfl) ?_
    simp -dsimp
    refine Sat.ite rfl (fun hc => ?_) (fun hc => ?_)
    · have hc : i < l.length := by simpa using hc
      obtain ⟨B, o, sp, b, hB, hbo, am⟩ := hr.mot (by omega) hc
      have hb : begM l i a = (l[i.toNat]!).fr := by simp only [begM, if_pos hc]
      have hlk : likeM l i = l[i.toNat]! := by simp only [likeM, if_pos hc]
      rw [hb, hlk]
      generalize l[i.toNat]! = m at *
      have nB := ne2 (show B < n from hlt B b hB)
      have nB1 := ne2 (show B < n + 1 by have := hlt B b hB; omega)
      have nB2 := ne2 (show B < n + 2 by have := hlt B b hB; omega)
      refine Sat.drw u26_6 mixed (by kernel_rfl) (by kernel_rfl) (by kernel_rfl) (by kernel_rfl) ?_
      simp -dsimp [-indexAddrA, am.idx, ↓am.l36, ↓am.l38, hB, nB, nB1, nB2]
      funext L
      simp only [upd_at]
      split
      · rename_i e; subst e; simp [Mot.cells]
      · split
        · simp [Mot.fr]
        · rfl
    · have hc : ¬ i < l.length := by simpa using hc
      refine Sat.sq ?_
      refine Sat.reg (by kernel_rfl) ?_
      simp -dsimp
      refine Sat.ite rfl (fun hz => ?_) (fun hz => ?_)
      · have hz : 0 < l.length := by
          have : (0 : Int) < l.length := by simpa using hz
          omega
        have hb : begM l i a = (l[l.length - 1]!).to := by simp only [begM, if_neg hc, if_pos hz]
        have hlk : likeM l i = l[l.length - 1]! := by simp only [likeM, if_neg hc, if_pos hz]
        obtain ⟨B, o, sp, b, hB, hbo, am⟩ := hr.mot (i := (l.length : Int) - 1) (by omega) (by omega)
        rw [show ((l.length : Int) - 1).toNat = l.length - 1 by omega] at am
        have W : IntKind.i64.wrap ((l.length : Int) - 1) = (l.length : Int) - 1 := wrap_in (by omega) (by omega)
        rw [hb, hlk]
        generalize l[l.length - 1]! = m at *
        have nB := ne2 (show B < n from hlt B b hB)
        have nB1 := ne2 (show B < n + 1 by have := hlt B b hB; omega)
        have nB2 := ne2 (show B < n + 2 by have := hlt B b hB; omega)
        refine Sat.drw u26_8 mixed (by kernel_rfl) (by kernel_rfl) (by kernel_rfl) (by kernel_rfl) ?_
        simp -dsimp [W, -indexAddrA, am.idx, ↓am.l36', ↓am.l38, hB, nB, nB1, nB2]
        funext L
        simp only [upd_at]
        split
        · rename_i e; subst e; simp [Mot.cells]
        · split
          · simp [Mot.to]
          · rfl
      · have hz : ¬ 0 < l.length := by
          have : ¬ (0 : Int) < l.length := by simpa using hz
          omega
        have hb : begM l i a = a := by simp only [begM, if_neg hc, if_neg hz]
        have hlk : likeM l i = ⟨0, 0, 0, 0, 0, 0, 0, 0, 0⟩ := by simp only [likeM, if_neg hc, if_neg hz]
        rw [hb, hlk]
        refine Sat.skip ?_
        simp -dsimp
        rfl
  rintro T h3 n3 ⟨t0, t1, t3, t6, t10, t11, rfl, rfl⟩
  have hrm : restM l i a safe = if safe < a.z ∨ safe < (begM l i a).z ∨ safe < 1000 then ([], 1) else if a = begM l i a then (l.drop i.toNat, 0) else if (begM l i a).z < 1000 ∧ rateM l i = 0 then ([], 13) else
      (legsTo a (begM l i a) safe (rateM l i) (likeM l i).tool (likeM l i).block 4 ++ l.drop i.toNat, 0) := by simp only [restM]; rw [if_neg (by omega)]
  generalize begM l i a = b at *
  generalize likeM l i = lk at *
  have hk3 : ∀ L, L < n → upd (upd (upd h n ⟨[.int .i64 a.x, .int .i64 a.y, .int .i64 a.z], 36, 0, true⟩) (n + 1) ⟨[.int .i64 b.x, .int .i64 b.y, .int .i64 b.z], 36, 0, true⟩) (n + 2) ⟨lk.cells, 38, 0, true⟩ L = h L := by
    repeat (first | exact keep_refl | refine keep_upd (by omega) ?_)
  have e0 : upd (upd (upd h n ⟨[.int .i64 a.x, .int .i64 a.y, .int .i64 a.z], 36, 0, true⟩) (n + 1) ⟨[.int .i64 b.x, .int .i64 b.y, .int .i64 b.z], 36, 0, true⟩) (n + 2) ⟨lk.cells, 38, 0, true⟩ n = some ⟨[.int .i64 a.x, .int .i64 a.y, .int .i64 a.z], 36, 0, true⟩ := by
    rw [upd_at, if_neg (by omega), upd_at, if_neg (by omega), upd_at, if_pos rfl]
  have e1 : upd (upd (upd h n ⟨[.int .i64 a.x, .int .i64 a.y, .int .i64 a.z], 36, 0, true⟩) (n + 1) ⟨[.int .i64 b.x, .int .i64 b.y, .int .i64 b.z], 36, 0, true⟩) (n + 2) ⟨lk.cells, 38, 0, true⟩ (n + 1) = some ⟨[.int .i64 b.x, .int .i64 b.y, .int .i64 b.z], 36, 0, true⟩ := by
    rw [upd_at, if_neg (by omega), upd_at, if_pos rfl]
  have e2 : upd (upd (upd h n ⟨[.int .i64 a.x, .int .i64 a.y, .int .i64 a.z], 36, 0, true⟩) (n + 1) ⟨[.int .i64 b.x, .int .i64 b.y, .int .i64 b.z], 36, 0, true⟩) (n + 2) ⟨lk.cells, 38, 0, true⟩ (n + 2) = some ⟨lk.cells, 38, 0, true⟩ := by
    rw [upd_at, if_pos rfl]
  have hl3 := lt_fresh (b := ⟨lk.cells, 38, 0, true⟩) (lt_fresh (b := ⟨[.int .i64 b.x, .int .i64 b.y, .int .i64 b.z], 36, 0, true⟩) (lt_fresh (b := ⟨[.int .i64 a.x, .int .i64 a.y, .int .i64 a.z], 36, 0, true⟩) hlt))
  generalize upd (upd (upd h n _) _ _) _ _ = h3 at *
  have hr3 : RO h3 9 (.slice Ad l.length cd) (motCells l) l.length := hr.fz fun L b x _ => by rw [hk3 L (hlt L b x)]; exact x
  refine Sat.sq ?_
  refine Sat.sq ?_
  refine Sat.reg (by kernel_rfl) ?_
  simp -dsimp [t3, t6, t10, e0, e1]
  refine Sat.ite rfl (fun hc => ?_) (fun hc => ?_)
  · have hc : safe < a.z ∨ safe < b.z ∨ safe < 1000 := by simp at hc; omega
    rw [if_pos hc] at hrm
    refine Sat.sq ?_
    refine Sat.reg (by kernel_rfl) ?_
    simp -dsimp
    refine Sat.ret ?_
    try simp -dsimp only [thenH_ret, blockA_ret, thenA_ret]
    exact RetQ.ret (r := .tuple #[.slice none 0 0, .int .i64 1]) (by rfl) ⟨by omega, hk3, _, by rw [hrm], by rw [hrm]; exact RO.nil⟩
  have hc : ¬ (safe < a.z ∨ safe < b.z ∨ safe < 1000) := by simp at hc; omega
  rw [if_neg hc] at hrm
  refine Sat.skip ?_
  simp -dsimp
  obtain ⟨sv, hsv, hrs⟩ := hr3.drop (i := i) (by omega) (by omega)
  have hdl : (l.drop i.toNat).length ≤ 1000000 := by simp; omega
  generalize l.drop i.toNat = rest at *
  obtain ⟨Ac, cc, us, hcl, hus, hrc, hsame, hlt4⟩ := w44x hrs (by omega) (n + 3) hl3
  refine Sat.sq ?_
  refine Sat.reg (by kernel_rfl) ?_
  simp -dsimp [t0, t1, -sliceA, hsv]
  refine hcl.useH ?_
  have hk4 : ∀ L, L < n → applyU h3 us L = h L := fun L hL => by rw [hsame L (by omega)]; exact hk3 L hL
  have f0 := (hsame n (by omega)).trans e0
  have f1 := (hsame (n + 1) (by omega)).trans e1
  have f2 := (hsame (n + 2) (by omega)).trans e2
  have hr4 : RO (applyU h3 us) 9 (.slice Ad l.length cd) (motCells l) l.length := hr3.fz fun L b x _ => by rw [hsame L (hl3 L b x)]; exact x
  generalize applyU h3 us = h4 at *
  simp -dsimp
  refine Sat.sq ?_
  refine Sat.sq ?_
  refine Sat.reg (by kernel_rfl) ?_
  simp -dsimp [t6, t10, f0, f1]
  refine Sat.ite rfl (fun hc => ?_) (fun hc => ?_)
  · have hc : a = b := by rw [P3.eq_iff]; simpa using hc
    rw [if_pos hc] at hrm
    refine Sat.sq ?_
    refine Sat.reg (by kernel_rfl) ?_
    simp -dsimp
    refine Sat.ret ?_
    try simp -dsimp only [thenH_ret, blockA_ret, thenA_ret]
    exact RetQ.ret (r := .tuple #[.slice Ac rest.length cc, .int .i64 0]) (by rfl) ⟨by omega, hk4, _, by rw [hrm], by rw [hrm]; exact hrc⟩
  have hab : ¬ a = b := by
    rw [P3.eq_iff]; simp at hc; omega
  rw [if_neg hab] at hrm
  refine Sat.skip ?_
  simp -dsimp
  refine Sat.sq ?_
  refine Sat.reg (by kernel_rfl) ?_
  simp -dsimp
  have W : IntKind.i64.wrap ((l.length : Int) - 1) = (l.length : Int) - 1 := wrap_in (by omega) (by omega)
  refine Sat.join (fun T h' n' => find T 3 = some (.int .i64 safe) ∧ find T 6 = some (.pointer (some ⟨n, 0, none⟩)) ∧ find T 10 = some (.pointer (some ⟨n + 1, 0, none⟩)) ∧ find T 11 = some (.pointer (some ⟨n + 2, 0, none⟩)) ∧ find T 12 = some (.slice Ac rest.length cc) ∧ find T 13 = some (.int .i64 (rateM l i)) ∧ h' = h4 ∧ n' = n + 4) ?_ ?_
  · refine Sat.sq ?_
    refine Sat.reg (by kernel_rfl) ?_
    simp -dsimp [t0, t1, W]
    refine Sat.block ?_
    refine Sat.loop (ι := Nat × Int × Int) (fun j T h' n' => (find T 3 = some (.int .i64 safe) ∧ find T 6 = some (.pointer (some ⟨n, 0, none⟩)) ∧ find T 10 = some (.pointer (some ⟨n + 1, 0, none⟩)) ∧ find T 11 = some (.pointer (some ⟨n + 2, 0, none⟩)) ∧ find T 12 = some (.slice Ac rest.length cc)) ∧ h' = h4 ∧ n' = n + 4 ∧
      find T 0 = some (.slice Ad l.length cd) ∧ find T 14 = some (.int .i64 j.2.1) ∧ find T 13 = some (.int .i64 j.2.2) ∧ -1 ≤ j.2.1 ∧ j.2.1 < l.length ∧ j.2.1 < j.1 ∧ (if j.2.2 = 0 then rateL l j.1 j.2.1 else j.2.2) = rateM l i) (fun j => j.1) (l.length + 1, min i (l.length - 1), 0) ?_ ?_
    · refine ⟨⟨by simp [find, t3], by simp [find, t6], by simp [find, t10], by simp [find, t11], rfl⟩, rfl, rfl, by simp [find, t0], by simp [find], by simp [find], by simp only; omega, by simp only; omega, by simp only; omega, by simp [rateM]⟩
    · rintro ⟨k, j, r⟩ T h' n' ⟨⟨t3, t6, t10, t11, t12⟩, rfl, rfl, t0, t14, t13, j0, j1, jk, he⟩
      simp only at t14 t13 j0 j1 jk he
      refine Sat.sq ?_
      refine Sat.sq ?_
      refine Sat.reg (by kernel_rfl) ?_
      by_cases hj : 0 ≤ j
      · by_cases hz : r = 0
        · subst hz
          obtain ⟨k, rfl⟩ : ∃ k', k = k' + 1 := ⟨k - 1, by omega⟩
          obtain ⟨B, o, sp, bb, hB, hbo, am⟩ := hr4.mot hj j1
          rw [if_pos rfl, rateL, if_pos hj] at he
          generalize l[j.toNat]! = m at *
          have W2 : IntKind.i64.wrap (j - 1) = j - 1 := wrap_in (by omega) (by omega)
          simp -dsimp [t13, t14, hj]
          refine Sat.cond (t := true) (by rfl) ?_
          refine Sat.skip ?_
          simp -dsimp
          refine Sat.sq ?_
          refine Sat.block ?_
          refine Sat.reg (by kernel_rfl) ?_
          simp -dsimp [t0, t14, -indexAddrA, am.idx, ↓am.l2, hB]
          refine Sat.reg (by kernel_rfl) ?_
          simp -dsimp [t0, t14, t3, t6, t10, t11, t12, W2]
          exact ⟨k, ⟨by omega, by omega, by omega, he⟩, by omega⟩
        · simp -dsimp [t13, t14, hj, hz]
          refine Sat.ite rfl (fun hh => absurd (by simpa using hh) hz) (fun hh => ?_)
          refine Sat.exit ?_
          rw [if_neg hz] at he
          simp -dsimp [t3, t6, t10, t11, t12, t13, he]
      · simp -dsimp [t13, t14, hj]
        refine Sat.cond (t := false) (by rfl) ?_
        refine Sat.exit ?_
        rw [rateL_neg l k hj] at he
        have he : r = rateM l i := by
          by_cases hz : r = 0
          · rw [if_pos hz] at he; omega
          · rw [if_neg hz] at he; exact he
        simp -dsimp [t3, t6, t10, t11, t12, t13, he]
  generalize rateM l i = rate at *
  rintro T h5 n5 ⟨t3, t6, t10, t11, t12, t13, rfl, rfl⟩
  refine Sat.join (fun T h' n' => find T 3 = some (.int .i64 safe) ∧ find T 6 = some (.pointer (some ⟨n, 0, none⟩)) ∧ find T 10 = some (.pointer (some ⟨n + 1, 0, none⟩)) ∧ find T 11 = some (.pointer (some ⟨n + 2, 0, none⟩)) ∧ find T 12 = some (.slice Ac rest.length cc) ∧ find T 13 = some (.int .i64 rate) ∧ h' = h5 ∧ n' = n + 4 ∧ ¬ (b.z < 1000 ∧ rate = 0)) ?_ ?_
  · refine Sat.sq ?_
    refine Sat.reg (by kernel_rfl) ?_
    by_cases hz : b.z < 1000
    · by_cases hq : rate = 0
      · subst hq
        rw [if_pos ⟨hz, rfl⟩] at hrm
        simp -dsimp [t10, t13, f1, hz]
        refine Sat.cond (t := true) (by rfl) ?_
        refine Sat.sq ?_
        refine Sat.reg (by kernel_rfl) ?_
        simp -dsimp
        refine Sat.ret ?_
        try simp -dsimp only [thenH_ret, blockA_ret, thenA_ret]
        exact RetQ.ret (r := .tuple #[.slice none 0 0, .int .i64 13]) (by rfl) ⟨by omega, hk4, _, by rw [hrm], by rw [hrm]; exact RO.nil⟩
      · simp -dsimp [t10, t13, f1, hz, hq]
        refine Sat.ite rfl (fun hh => absurd (by simpa using hh) hq) (fun hh => ?_)
        refine Sat.skip ?_
        simp -dsimp [t3, t6, t10, t11, t12, t13, hq]
    · simp -dsimp [t10, t13, f1, hz]
      refine Sat.cond (t := false) (by rfl) ?_
      refine Sat.skip ?_
      simp -dsimp [t3, t6, t10, t11, t12, t13, hz]
  rintro T h6 n6 ⟨t3, t6, t10, t11, t12, t13, rfl, rfl, hnb⟩
  rw [if_neg hnb] at hrm
  have hmx : (if b.z < 1000 then 1000 else b.z) = max b.z 1000 := by omega
  refine Sat.sq ?_
  refine Sat.reg (by kernel_rfl) ?_
  simp -dsimp [t3, t6, t10, f0, f1]
  have hW : upd h6 (n + 4) ⟨wayC a b safe, 36, 0, true⟩ (n + 4) = some ⟨wayC a b safe, 36, 0, true⟩ := by rw [upd_at, if_pos rfl]
  have hk7 : ∀ L, L < n + 4 → upd h6 (n + 4) ⟨wayC a b safe, 36, 0, true⟩ L = h6 L := fun L hL => by rw [upd_at, if_neg (by omega)]
  have hl7 := lt_fresh (b := ⟨wayC a b safe, 36, 0, true⟩) hlt4
  have hf7 : Fz h6 (upd h6 (n + 4) ⟨wayC a b safe, 36, 0, true⟩) := fun L bb x _ => by rw [hk7 L (hlt4 L bb x)]; exact x
  generalize upd h6 (n + 4) ⟨wayC a b safe, 36, 0, true⟩ = h7 at *
  have g0 := (hk7 n (by omega)).trans f0
  have g2 := (hk7 (n + 2) (by omega)).trans f2
  have hrc7 := hrc.fz hf7
  have hk7' : ∀ L, L < n → h7 L = h L := fun L hL => by rw [hk7 L (by omega)]; exact hk4 L hL
  refine Sat.sq ?_
  refine Sat.reg (by kernel_rfl) ?_
  simp -dsimp
  refine Sat.join (fun T h' n' => find T 12 = some (.slice Ac rest.length cc) ∧ (∀ L, L < n → h' L = h L) ∧ (∀ L, L < n + 5 → L ≠ n → h' L = h7 L) ∧ n + 5 ≤ n' ∧ ∃ s, find T 16 = some s ∧ GS h' 38 9 s (motCells (legsTo a b safe rate lk.tool lk.block 4)) (legsTo a b safe rate lk.tool lk.block 4).length (n + 5) n') ?_ ?_
  · refine Sat.sq ?_
    refine Sat.reg (by kernel_rfl) ?_
    simp -dsimp
    refine Sat.block ?_
    refine Sat.loop (ι := Nat) (fun j T h' n' => (find T 6 = some (.pointer (some ⟨n, 0, none⟩)) ∧ find T 11 = some (.pointer (some ⟨n + 2, 0, none⟩)) ∧ find T 12 = some (.slice Ac rest.length cc) ∧ find T 13 = some (.int .i64 rate) ∧ find T 122 = some (.slice (some ⟨n + 4, 0, none⟩) 4 1) ∧ find T 123 = some (.int .i64 4) ∧ find T 124 = some (.int .i64 j)) ∧
      j ≤ 4 ∧ (∀ L, L < n → h' L = h L) ∧ (∀ L, L < n + 5 → L ≠ n → h' L = h7 L) ∧ n + 5 ≤ n' ∧ h' n = some ⟨[.int .i64 (ptR a b safe j).x, .int .i64 (ptR a b safe j).y, .int .i64 (ptR a b safe j).z], 36, 0, true⟩ ∧ h' (n + 2) = some ⟨lk.cells, 38, 0, true⟩ ∧ h' (n + 4) = some ⟨wayC a b safe, 36, 0, true⟩ ∧
      ∃ s, find T 16 = some s ∧ GS h' 38 9 s (motCells (legsTo a b safe rate lk.tool lk.block j)) (legsTo a b safe rate lk.tool lk.block j).length (n + 5) n') (fun j => 4 - j) 0 ?_ ?_
    · exact ⟨⟨by simp [find, t6], by simp [find, t11], by simp [find, t12], by simp [find, t13], by simp [find], by simp [find], by simp [find]⟩, by omega, hk7', fun _ _ _ => rfl, by omega, by simpa [ptR] using g0, g2, hW, _, by simp [find], .nil⟩
    · rintro j T h' n' ⟨⟨t6, t11, t12, t13, t122, t123, t124⟩, j4, hk, hfz, ln, m0, m2, mW, s, t16, hg⟩
      refine Sat.lt fun hltj => ?_
      refine Sat.sq ?_
      refine Sat.reg (by kernel_rfl) ?_
      simp -dsimp [t123, t124]
      refine Sat.sq ?_
      refine Sat.ite rfl (fun hc => ?_) (fun hc => ?_)
      · have hc : j < 4 := by
          have : (j : Int) < 4 := by simpa using hc
          omega
        have hw := fun (h'' : Heap) (hh : h'' (n + 4) = some ⟨wayC a b safe, 36, 0, true⟩) => way_at hh j hc
        have hj4 : (j : Int) < 4 := by omega
        refine Sat.skip ?_
        simp -dsimp
        have nn := ne2 (show n < n' by omega)
        have nn1 := ne2 (show n < n' + 1 by omega)
        have n2n := ne2 (show n + 2 < n' by omega)
        have n2n1 := ne2 (show n + 2 < n' + 1 by omega)
        have n4n := ne2 (show n + 4 < n' by omega)
        have n4n1 := ne2 (show n + 4 < n' + 1 by omega)
        refine Sat.sq ?_
        refine Sat.block ?_
        refine Sat.sq ?_
        refine Sat.reg (by kernel_rfl) ?_
        simp -dsimp [t122, t124, Try.underlying95, hj4, hc, ↓hw, mW, nn]
        refine Sat.sq ?_
        refine Sat.reg (by kernel_rfl) ?_
        simp -dsimp [t6, t11, m0, m2, Mot.cells, nn, n2n, nn1]
        have X1 : Fz h' (upd (upd h' n' ⟨[.int .i64 (ptR a b safe (j + 1)).x, .int .i64 (ptR a b safe (j + 1)).y, .int .i64 (ptR a b safe (j + 1)).z], 36, 0, true⟩) (n' + 1) ⟨(legMot a b safe rate lk.tool lk.block j).cells, 38, 0, true⟩) := fun L bb x _ => by
          have := hltj L bb x
          rw [upd_at, if_neg (by omega), upd_at, if_neg (by omega)]; exact x
        have X2 : ∀ L, L < n' → upd (upd h' n' ⟨[.int .i64 (ptR a b safe (j + 1)).x, .int .i64 (ptR a b safe (j + 1)).y, .int .i64 (ptR a b safe (j + 1)).z], 36, 0, true⟩) (n' + 1) ⟨(legMot a b safe rate lk.tool lk.block j).cells, 38, 0, true⟩ L = h' L := fun L hL => by
          rw [upd_at, if_neg (by omega), upd_at, if_neg (by omega)]
        have X3 : upd (upd h' n' ⟨[.int .i64 (ptR a b safe (j + 1)).x, .int .i64 (ptR a b safe (j + 1)).y, .int .i64 (ptR a b safe (j + 1)).z], 36, 0, true⟩) (n' + 1) ⟨(legMot a b safe rate lk.tool lk.block j).cells, 38, 0, true⟩ n' = some ⟨[.int .i64 (ptR a b safe (j + 1)).x, .int .i64 (ptR a b safe (j + 1)).y, .int .i64 (ptR a b safe (j + 1)).z], 36, 0, true⟩ := by
          rw [upd_at, if_neg (by omega), upd_at, if_pos rfl]
        have X4 : upd (upd h' n' ⟨[.int .i64 (ptR a b safe (j + 1)).x, .int .i64 (ptR a b safe (j + 1)).y, .int .i64 (ptR a b safe (j + 1)).z], 36, 0, true⟩) (n' + 1) ⟨(legMot a b safe rate lk.tool lk.block j).cells, 38, 0, true⟩ (n' + 1) = some ⟨(legMot a b safe rate lk.tool lk.block j).cells, 38, 0, true⟩ := by
          rw [upd_at, if_pos rfl]
        refine Sat.join (fun T h'' n'' => (find T 6 = some (.pointer (some ⟨n, 0, none⟩)) ∧ find T 11 = some (.pointer (some ⟨n + 2, 0, none⟩)) ∧ find T 12 = some (.slice Ac rest.length cc) ∧ find T 13 = some (.int .i64 rate) ∧ find T 122 = some (.slice (some ⟨n + 4, 0, none⟩) 4 1) ∧ find T 123 = some (.int .i64 4) ∧ find T 124 = some (.int .i64 j)) ∧
          find T 16 = some s ∧ find T 18 = some (.pointer (some ⟨n', 0, none⟩)) ∧ find T 19 = some (.pointer (some ⟨n' + 1, 0, none⟩)) ∧
          h'' = upd (upd h' n' ⟨[.int .i64 (ptR a b safe (j + 1)).x, .int .i64 (ptR a b safe (j + 1)).y, .int .i64 (ptR a b safe (j + 1)).z], 36, 0, true⟩) (n' + 1) ⟨(legMot a b safe rate lk.tool lk.block j).cells, 38, 0, true⟩ ∧ n'' = n' + 2) ?_ ?_
        · refine Sat.sq ?_
          refine Sat.reg (by kernel_rfl) ?_
          simp -dsimp
          refine Sat.ite rfl (fun hz => ?_) (fun hz => ?_)
          · have hz : j = 3 := by
              have : (j : Int) = 3 := by simpa using hz
              omega
            have hl : legMot a b safe rate lk.tool lk.block j = ⟨(ptR a b safe j).x, (ptR a b safe j).y, (ptR a b safe j).z, (ptR a b safe (j + 1)).x, (ptR a b safe (j + 1)).y, (ptR a b safe (j + 1)).z, rate, lk.tool, lk.block⟩ := by simp only [legMot, if_pos hz]
            rw [hl]
            refine Sat.reg (by kernel_rfl) ?_
            simp -dsimp [t6, t11, t12, t13, t16, t122, t123, t124, Mot.cells]
          · have hz : ¬ j = 3 := by
              have : ¬ (j : Int) = 3 := by simpa using hz
              omega
            have hl : legMot a b safe rate lk.tool lk.block j = ⟨(ptR a b safe j).x, (ptR a b safe j).y, (ptR a b safe j).z, (ptR a b safe (j + 1)).x, (ptR a b safe (j + 1)).y, (ptR a b safe (j + 1)).z, 0, lk.tool, lk.block⟩ := by simp only [legMot, if_neg hz]
            rw [hl]
            refine Sat.skip ?_
            simp -dsimp [t6, t11, t12, t13, t16, t122, t123, t124, Mot.cells]
        rintro T2 h2 n2 ⟨⟨t6, t11, t12, t13, t122, t123, t124⟩, t16, t18, t19, hh2, rfl⟩
        rw [← hh2] at X1 X2 X3 X4
        have hlegs : legsTo a b safe rate lk.tool lk.block (j + 1) = legsTo a b safe rate lk.tool lk.block j ++ (if ptR a b safe j = ptR a b safe (j + 1) then [] else [legMot a b safe rate lk.tool lk.block j]) := rfl
        have hleg := legsTo_len a b safe rate lk.tool lk.block j
        have hg2 : GS h2 38 9 s (motCells (legsTo a b safe rate lk.tool lk.block j)) (legsTo a b safe rate lk.tool lk.block j).length (n + 5) n' := hg.frame (fun L h1 h3 => X2 L h3) (Nat.le_refl _)
        have hlm : (legMot a b safe rate lk.tool lk.block j).fx = (ptR a b safe j).x ∧ (legMot a b safe rate lk.tool lk.block j).fy = (ptR a b safe j).y ∧ (legMot a b safe rate lk.tool lk.block j).fz = (ptR a b safe j).z ∧ (legMot a b safe rate lk.tool lk.block j).tx = (ptR a b safe (j + 1)).x ∧ (legMot a b safe rate lk.tool lk.block j).ty = (ptR a b safe (j + 1)).y ∧ (legMot a b safe rate lk.tool lk.block j).tz = (ptR a b safe (j + 1)).z := ⟨rfl, rfl, rfl, rfl, rfl, rfl⟩
        generalize legMot a b safe rate lk.tool lk.block j = lm at *
        have m0' := (X2 n (by omega)).trans m0
        have m2' := (X2 (n + 2) (by omega)).trans m2
        have mW' := (X2 (n + 4) (by omega)).trans mW
        have hk2 : ∀ L, L < n → h2 L = h L := fun L hL => by rw [X2 L (by omega)]; exact hk L hL
        have hfz2 : ∀ L, L < n + 5 → L ≠ n → h2 L = h7 L := fun L h1 h3 => (X2 L (by omega)).trans (hfz L h1 h3)
        clear hh2
        obtain ⟨q1, q2, q3, q4, q5, q6⟩ := hlm
        refine Sat.join (fun T h'' n'' => (find T 6 = some (.pointer (some ⟨n, 0, none⟩)) ∧ find T 11 = some (.pointer (some ⟨n + 2, 0, none⟩)) ∧ find T 12 = some (.slice Ac rest.length cc) ∧ find T 13 = some (.int .i64 rate) ∧ find T 122 = some (.slice (some ⟨n + 4, 0, none⟩) 4 1) ∧ find T 123 = some (.int .i64 4) ∧ find T 124 = some (.int .i64 j)) ∧
          find T 18 = some (.pointer (some ⟨n', 0, none⟩)) ∧ (∀ L, L < n + 5 ∨ L = n' → h'' L = h2 L) ∧ (∀ L, L < n + 5 → L ≠ n → h'' L = h7 L) ∧ n' + 2 ≤ n'' ∧ ∃ s, find T 16 = some s ∧ GS h'' 38 9 s (motCells (legsTo a b safe rate lk.tool lk.block (j + 1))) (legsTo a b safe rate lk.tool lk.block (j + 1)).length (n + 5) n'') ?_ ?_
        · refine Sat.sq ?_
          refine Sat.reg (by kernel_rfl) ?_
          simp -dsimp [t19, X4, Mot.cells, q1, q2, q3, q4, q5, q6]
          refine Sat.ite rfl (fun hz => ?_) (fun hz => ?_)
          · have hz : ¬ ptR a b safe j = ptR a b safe (j + 1) := by
              rw [P3.eq_iff]
              simp only [Bool.or_eq_true, Bool.not_eq_true', decide_eq_false_iff_not] at hz
              omega
            rw [hlegs, if_neg hz, motCells_append, List.length_append, List.length_singleton, show motCells [lm] = lm.cells by simp [motCells]]
            refine Sat.reg (by kernel_rfl) ?_
            have hg3 : GS (upd h2 (n' + 2) ⟨lm.cells, 38, 0, true⟩) 38 9 s (motCells (legsTo a b safe rate lk.tool lk.block j)) (legsTo a b safe rate lk.tool lk.block j).length (n + 5) n' := hg2.frame (fun L h1 h3 => by rw [upd_at, if_neg (by omega)]) (Nat.le_refl _)
            obtain ⟨s', E, ha, hfr, hal, hal2, hg5⟩ := hg3.append (P := Try.prog) (t := 22) (L := n' + 3) (B := n' + 2) (xs := lm.cells) (bo := true) (by' := 72) Try.underlying22 c38 b38 z38 rfl (by omega) (by omega) (by rw [upd_at, if_pos rfl]) rfl (by omega) (by omega) (by omega)
            have Y1 : ∀ L, L < n + 5 ∨ L = n' → eff (upd h2 (n' + 2) ⟨lm.cells, 38, 0, true⟩) E L = h2 L := fun L hL => by
              rw [hfr _ (by omega), upd_at, if_neg (by omega)]
            have Y2 : ∀ L, L < n + 5 → L ≠ n → eff (upd h2 (n' + 2) ⟨lm.cells, 38, 0, true⟩) E L = h7 L := fun L h1 h3 => (Y1 L (.inl h1)).trans (hfz2 L h1 h3)
            dsimp only [Mot.cells] at ha hg5 Y1 Y2
            simp -dsimp [t6, t11, t12, t13, t16, t18, t19, t122, t123, t124, X4, Mot.cells, ha, -eff, -allocs]
            exact ⟨Y1, Y2, by omega, hg5⟩
          · have hz : ptR a b safe j = ptR a b safe (j + 1) := by
              rw [P3.eq_iff]
              simp only [Bool.or_eq_false_iff, Bool.not_eq_false', decide_eq_true_eq] at hz
              omega
            rw [hlegs, if_pos hz, List.append_nil]
            refine Sat.skip ?_
            simp -dsimp [t6, t11, t12, t13, t16, t18, t122, t123, t124]
            exact ⟨hfz2, hg2.frame (fun _ _ _ => rfl) (by omega)⟩
        rintro T3 h3 n3 ⟨⟨t6, t11, t12, t13, t122, t123, t124⟩, t18, Y1, Y2, ln3, s, t16, hg3⟩
        have W3 : IntKind.i64.wrap ((j : Int) + 1) = (j : Int) + 1 := wrap_in (by omega) (by omega)
        have z18 := (Y1 n' (.inr rfl)).trans X3
        have z0 := (Y1 n (.inl (by omega))).trans m0'
        have z2 := (Y1 (n + 2) (.inl (by omega))).trans m2'
        have z4 := (Y1 (n + 4) (.inl (by omega))).trans mW'
        have nn3 := ne2 (show n < n3 by omega)
        refine Sat.reg (by kernel_rfl) ?_
        simp -dsimp [t6, t18, z18, z0, nn3]
        refine Sat.reg (by kernel_rfl) ?_
        simp -dsimp [t6, t11, t12, t13, t16, t122, t123, t124, W3]
        refine ⟨j + 1, ⟨by omega, by omega, fun L hL => ?_, fun L h1 h4 => ?_, by omega, ⟨rfl, rfl, rfl⟩, z2, z4, hg3.frame (fun L h1 h4 => by rw [upd_at, if_neg (by omega)]) (Nat.le_refl _)⟩, by omega⟩
        · rw [if_neg (by omega), Y1 L (.inl (by omega))]; exact hk2 L hL
        · rw [if_neg h4]; exact Y2 L h1 h4
      · have hc : j = 4 := by
          have : ¬ (j : Int) < 4 := by simpa using hc
          omega
        subst hc
        refine Sat.exit ?_
        simp -dsimp [t12, t16]
        exact ⟨hk, hfz, ln, hg⟩
  · rintro T h8 n8 ⟨t12, hk8, hf8, ln8, s, t16, hg⟩
    have hrc8 := hrc7.fz (h' := h8) fun L bb x y => by rw [hf8 L (hl7 L bb x) (by intro e; subst e; rw [g0] at x; cases x; cases y)]; exact x
    have hleg := legsTo_len a b safe rate lk.tool lk.block 4
    generalize legsTo a b safe rate lk.tool lk.block 4 = out at *
    obtain ⟨s', E, ha, hfr, hal, hal2, hg2⟩ := GS.appendAny hg hrc8.cells (motCells_length rest) (L := n8) (Nat.le_refl _) (by omega) (by omega)
    have hk9 : ∀ L, L < n → eff h8 E L = h L := fun L hL => by rw [hfr L (by omega)]; exact hk8 L hL
    rw [← motCells_append, ← List.length_append] at hg2
    have hlt9 : n ≤ allocs n8 E := by omega
    obtain ⟨A', c', e'⟩ := hg2.val
    refine Sat.sq ?_
    refine Sat.reg (by kernel_rfl) ?_
    simp -dsimp [t12, t16, ha, -eff, -allocs]
    generalize eff h8 E = h9 at *
    generalize allocs n8 E = n9 at *
    rcases GS.toRO hg2 with hro | ⟨L, bb, hb, hL1, hL2, hro⟩
    · refine Sat.ret ?_
      try simp -dsimp only [thenH_ret, blockA_ret, thenA_ret]
      refine RetQ.ret (r := .tuple #[s', .int .i64 0]) (by subst e'; rfl) ⟨hlt9, hk9, _, by rw [hrm], by rw [hrm]; exact hro⟩
    · refine Sat.freeze L hb ?_
      refine Sat.ret ?_
      try simp -dsimp only [thenH_ret, blockA_ret, thenA_ret]
      refine RetQ.ret (r := .tuple #[s', .int .i64 0]) (by subst e'; rfl) ⟨hlt9, fun L' hL' => by rw [upd_at, if_neg (by omega)]; exact hk9 L' hL', _, by rw [hrm], by rw [hrm]; exact hro⟩

end Go.Proofs.Ytoinimkmoojcoaa
/- Walks, part R3. -/
set_option maxRecDepth 100000
set_option maxHeartbeats 4000000
set_option linter.unusedSimpArgs false
set_option linter.unusedVariables false
namespace Go.Proofs.Ytoinimkmoojcoaa
open Go Go.Dm
attribute [local simp ↓] RunS_nil RunS_op RunS_guard RunT_nil RunT_op RunT_guard opS_call opD_call opS_move opD_move opS_assign opD_assign opS_pick opD_pick opS_nilCheck opD_nilCheck opS_fieldAddr opD_fieldAddr opS_indexAddr opD_indexAddr opS_load opD_load opS_store opD_store opS_alloc opD_alloc opS_box opD_box opS_build opD_build opS_buildSlice opD_buildSlice opS_field opD_field opS_extract opD_extract opS_makeFunc opD_makeFunc opS_slice opD_slice opS_binOp opD_binOp opS_unOp opD_unOp opS_convert opD_convert opS_index opD_index opS_len opD_len opS_append opD_append opS_max opD_max opS_min opD_min obind_some obind_none thenH_normal thenH_ret thenH_exit blockA_normal blockA_ret blockA_exit thenA_normal thenA_ret thenA_exit dstAt_mk dstL_zero dstL_succ
attribute [local simp] undef wantG_bool wantG_undef findO_some calleeS find putA ev closed3 closed2 closed1 closed0 pickA binF unF convF mxF eqNilA fastBin fastUn fastConv intBin argEnv resultsA resultsL resultA notTuple allocs eff
  loadO storeO allocO boxO sliceO indexO indexAddrA loadA storeA newA isAggT nilCheckA lenA evAll evParts aadd gen upd_at upd_upd Value.cells mxV Pairs apart readsS labOf putAt fieldA partA extractA makeFuncA evOpt boundOf sliceA Nat.add_assoc
attribute [local simp] bu107_z bu107_0_1 bu25_0_1_2 bu36_z bu36_0_1 bu36_0_1_2 bu36_0 bu38_z bu38_0_1_2_3_4 bu38_0_1_3 bu38_0_1_3_4 bu38_1_2 bu38_1_2_3 bu52_0_1_10 bu81_0_1 bs22_0_z bs22_1_0 bs22_2_0_1 bs39_1_0 bs39_7_0_1_2_3_4_5_6 bs95_4_0_1_2_3
attribute [local simp ↓] eql107 neq107 eql36 neq36 eql38 neq38 eql25 neq25
attribute [local simp] fa25_0 fa25_1 fa25_2 fa36_0 fa36_1 fa36_2 fa38_0 fa38_1 fa38_2 fa38_3 fa38_4 fa107_0 fa107_1 fa81_0 fa81_1 fa81_2 fa81_3 fa81_4 fa81_5 fa81_6 fa81_7 fa81_8 fa81_9 fa81_10 fa52_0 fa52_1 fa52_2 fa52_3 fa52_4 fa52_5 fa52_6 fa52_7 fa52_8 fa52_9 fa52_10 fa52_11 fa52_12
attribute [local simp] c22 c39 c29 z22 z39 c25 c38 c2 c3 c4 c36 c107 c30 z25 z38 z2 z3 z4 z36 z107 b38 b25 b107 h38 h25 h36 h107 g38 g25 g36 g107 Try.underlying25 Try.underlying38 Try.underlying2 Try.underlying3 Try.underlying4 Try.underlying36 Try.underlying22 Try.underlying39 Try.underlying29 Try.underlying81 Try.underlying107 Try.underlying30
attribute [local simp] mx mn
theorem Sat.joinF {P : Program} {N : Nat} {x y : Code} {T : TEnv} {h : Heap} {n : Nat} {Q : Exit → TEnv → Heap → Nat → Prop} (J : TEnv → Heap → Nat → Prop) (hx : Sat P N x T h n (thenA (fun T h n => J T h n ∨ ∃ L b, h L = some b ∧ J T (upd h L { b with own := false }) n) Q)) (hj : ∀ T h n, J T h n → Sat P N y T h n Q) : Sat P N (.seq x y) T h n Q :=
  Sat.join _ hx fun T h n hh => hh.elim (hj T h n) fun ⟨L, b, hb, hJ⟩ => Sat.freeze L hb (hj _ _ _ hJ)
abbrev u27_19 : List (Nat × Nat) := [(0, 10), (4, 10), (6, 10), (8, 10)]
abbrev u27_22 : List (Nat × Nat) := []
theorem w27 {h : Heap} {lv : Value} {l : List Mot} (hr : RO h 9 lv (motCells l) l.length) (few : l.length ≤ 1000000) (i : Int) (a : P3) (safe : Int) (n : Nat) :
    Dm.Spec Try.prog 27 [lv, .int .i64 i, a.v, .int .i64 safe] h n (restPost l i a safe h n) := by
  refine Spec.body Try.func27 rfl (by kernel_rfl) Try.ntmps27 (by rw [Try.results27]) (Nat.le_of_ble_eq_true rfl) ?_
  refine Sat.lt fun hlt => ?_
  obtain ⟨Ad, cd, rfl⟩ := hr.len
  have hk1 : ∀ L, L < n → upd h n ⟨[.int .i64 a.x, .int .i64 a.y, .int .i64 a.z], 36, 0, true⟩ L = h L := keep_upd (by omega) keep_refl
  have hl1 := lt_fresh (b := ⟨[.int .i64 a.x, .int .i64 a.y, .int .i64 a.z], 36, 0, true⟩) hlt
  refine Sat.sq ?_
  refine Sat.reg (by kernel_rfl) ?_
  simp -dsimp
  refine Sat.sq ?_
  refine Sat.sq ?_
  refine Sat.reg (by kernel_rfl) ?_
  by_cases hi0 : i < 0
  · have hm : restM l i a safe = ([], 1) := by simp [restM, hi0]
    simp -dsimp [hi0]
    refine Sat.cond (t := true) (by rfl) ?_
    refine Sat.sq ?_
    refine Sat.reg (by kernel_rfl) ?_
    simp -dsimp
    refine Sat.ret ?_
    try simp -dsimp only [thenH_ret, blockA_ret, thenA_ret]
    exact RetQ.ret (r := .tuple #[.slice none 0 0, .int .i64 1]) (by rfl) ⟨by omega, hk1, _, by rw [hm], by rw [hm]; exact RO.nil⟩
  by_cases hi1 : (l.length : Int) < i
  · have hm : restM l i a safe = ([], 1) := by simp [restM, hi1]
    simp -dsimp [hi0, hi1]
    refine Sat.cond (t := true) (by rfl) ?_
    refine Sat.sq ?_
    refine Sat.reg (by kernel_rfl) ?_
    simp -dsimp
    refine Sat.ret ?_
    try simp -dsimp only [thenH_ret, blockA_ret, thenA_ret]
    exact RetQ.ret (r := .tuple #[.slice none 0 0, .int .i64 1]) (by rfl) ⟨by omega, hk1, _, by rw [hm], by rw [hm]; exact RO.nil⟩
  simp -dsimp [hi0, hi1]
  refine Sat.cond (t := false) (by rfl) ?_
  refine Sat.skip ?_
  simp -dsimp
  have e0 : upd h n ⟨[.int .i64 a.x, .int .i64 a.y, .int .i64 a.z], 36, 0, true⟩ n = some ⟨[.int .i64 a.x, .int .i64 a.y, .int .i64 a.z], 36, 0, true⟩ := by rw [upd_at, if_pos rfl]
  generalize upd h n _ = h1 at *
  have hr1 : RO h1 9 (.slice Ad l.length cd) (motCells l) l.length := hr.fz fun L b x _ => by rw [hk1 L (hlt L b x)]; exact x
  refine Sat.sq ?_
  refine Sat.reg (by kernel_rfl) ?_
  simp -dsimp [e0]
  refine (w63 hr1 few (by omega) a _).useH ?_
  have hrm : restM l i a safe = if safe < a.z ∨ safe < (begM l i a).z ∨ safe < 1000 then ([], 1) else if a = begM l i a then (l.drop i.toNat, 0) else if (begM l i a).z < 1000 ∧ rateM l i = 0 then ([], 13) else
      (legsTo a (begM l i a) safe (rateM l i) (likeM l i).tool (likeM l i).block 4 ++ l.drop i.toNat, 0) := by simp only [restM]; rw [if_neg (by omega)]
  have hbe : l.length = 0 → begM l i a = a := fun h0 => by simp only [begM]; rw [if_neg (by omega), if_neg (by omega)]
  generalize begM l i a = b at *
  simp -dsimp
  have hk2 : ∀ L, L < n → upd h1 (n + 1) ⟨[.int .i64 b.x, .int .i64 b.y, .int .i64 b.z], 36, 0, true⟩ L = h L := keep_upd (by omega) hk1
  have f0 : upd h1 (n + 1) ⟨[.int .i64 b.x, .int .i64 b.y, .int .i64 b.z], 36, 0, true⟩ n = some ⟨[.int .i64 a.x, .int .i64 a.y, .int .i64 a.z], 36, 0, true⟩ := by rw [upd_at, if_neg (by omega)]; exact e0
  have f1 : upd h1 (n + 1) ⟨[.int .i64 b.x, .int .i64 b.y, .int .i64 b.z], 36, 0, true⟩ (n + 1) = some ⟨[.int .i64 b.x, .int .i64 b.y, .int .i64 b.z], 36, 0, true⟩ := by rw [upd_at, if_pos rfl]
  have hl2 := lt_fresh (b := ⟨[.int .i64 b.x, .int .i64 b.y, .int .i64 b.z], 36, 0, true⟩) hl1
  have hr2 : RO (upd h1 (n + 1) ⟨[.int .i64 b.x, .int .i64 b.y, .int .i64 b.z], 36, 0, true⟩) 9 (.slice Ad l.length cd) (motCells l) l.length := hr1.fz fun L b x _ => by rw [upd_at, if_neg (by have := hl1 L b x; omega)]; exact x
  generalize upd h1 (n + 1) _ = h2 at *
  refine Sat.join (fun T h' n' => find T 0 = some (.slice Ad l.length cd) ∧ find T 1 = some (.int .i64 i) ∧ find T 3 = some (.int .i64 safe) ∧ find T 6 = some (.pointer (some ⟨n, 0, none⟩)) ∧ find T 10 = some (.pointer (some ⟨n + 1, 0, none⟩)) ∧ h' = h2 ∧ n' = n + 2 ∧ ¬ (safe < a.z ∨ safe < b.z ∨ safe < 1000)) ?_ ?_
  · refine Sat.sq ?_
    refine Sat.reg (by kernel_rfl) ?_
    have good : (safe < a.z ∨ safe < b.z ∨ safe < 1000) → restM l i a safe = ([], 1) := fun hc => by rw [hrm, if_pos hc]
    by_cases c1 : safe < a.z
    · have hm := good (.inl c1)
      simp -dsimp [f0, c1]
      refine Sat.cond (t := true) (by rfl) ?_
      refine Sat.sq ?_
      refine Sat.reg (by kernel_rfl) ?_
      simp -dsimp
      refine Sat.ret ?_
      try simp -dsimp only [thenH_ret, blockA_ret, thenA_ret]
      exact RetQ.ret (r := .tuple #[.slice none 0 0, .int .i64 1]) (by rfl) ⟨by omega, hk2, _, by rw [hm], by rw [hm]; exact RO.nil⟩
    by_cases c2 : safe < b.z
    · have hm := good (.inr (.inl c2))
      simp -dsimp [f0, f1, c1, c2]
      refine Sat.cond (t := true) (by rfl) ?_
      refine Sat.sq ?_
      refine Sat.reg (by kernel_rfl) ?_
      simp -dsimp
      refine Sat.ret ?_
      try simp -dsimp only [thenH_ret, blockA_ret, thenA_ret]
      exact RetQ.ret (r := .tuple #[.slice none 0 0, .int .i64 1]) (by rfl) ⟨by omega, hk2, _, by rw [hm], by rw [hm]; exact RO.nil⟩
    by_cases c3 : safe < 1000
    · have hm := good (.inr (.inr c3))
      simp -dsimp [f0, f1, c1, c2, c3]
      refine Sat.cond (t := true) (by rfl) ?_
      refine Sat.sq ?_
      refine Sat.reg (by kernel_rfl) ?_
      simp -dsimp
      refine Sat.ret ?_
      try simp -dsimp only [thenH_ret, blockA_ret, thenA_ret]
      exact RetQ.ret (r := .tuple #[.slice none 0 0, .int .i64 1]) (by rfl) ⟨by omega, hk2, _, by rw [hm], by rw [hm]; exact RO.nil⟩
    simp -dsimp [f0, f1, c1, c2, c3]
    refine Sat.cond (t := false) (by rfl) ?_
    refine Sat.skip ?_
    simp -dsimp [c1, c2, c3]
  rintro T h3 n3 ⟨t0, t1, t3, t6, t10, rfl, rfl, hc⟩
  rw [if_neg hc] at hrm
  obtain ⟨sv, hsv, hrs⟩ := hr2.drop (i := i) (by omega) (by omega)
  have hdl : (l.drop i.toNat).length ≤ 1000000 := by simp; omega
  generalize l.drop i.toNat = rest at *
  obtain ⟨Ar, cr, rfl⟩ := hrs.len
  refine Sat.joinF (fun T h' n' => find T 0 = some (.slice Ad l.length cd) ∧ find T 1 = some (.int .i64 i) ∧ find T 3 = some (.int .i64 safe) ∧ find T 6 = some (.pointer (some ⟨n, 0, none⟩)) ∧ find T 10 = some (.pointer (some ⟨n + 1, 0, none⟩)) ∧ n + 3 ≤ n' ∧ (∀ L, L < n + 2 → h' L = h3 L) ∧ ∃ Ac cc, find T 11 = some (.slice Ac rest.length cc) ∧ RO h' 9 (.slice Ac rest.length cc) (motCells rest) rest.length) ?_ ?_
  · refine Sat.reg (by kernel_rfl) ?_
    by_cases hm0 : rest.length = 0
    · have hre : rest = [] := List.eq_nil_of_length_eq_zero hm0
      subst hre
      simp only [List.length_nil] at *
      simp -dsimp [t0, t1, t3, t6, t10, -sliceA, hsv, appendA]
      exact .inl ⟨fun L hL e => by omega, _, _, ⟨rfl, rfl⟩, rfl, _, _, rfl, fun h => (nomatch h), fun h => absurd h (by simp)⟩
    · have hx' : sliceCells Try.prog (upd h3 (n + 2) ⟨[], 38, 0, true⟩) 9 (.slice Ar rest.length cr) = some (motCells rest) := (hrs.fz fun L b x _ => by rw [upd_at, if_neg (by have := hl2 L b x; omega)]; exact x : RO (upd h3 (n + 2) ⟨[], 38, 0, true⟩) 9 (.slice Ar rest.length cr) (motCells rest) rest.length).cells
      have ha : appendA Try.prog (upd h3 (n + 2) ⟨[], 38, 0, true⟩) 22 (.slice (some ⟨n + 2, 0, none⟩) 0 1) (.slice Ar rest.length cr) (n + 3) = some (.slice (some ⟨n + 3, 0, none⟩) rest.length 11, some (n + 3, ⟨motCells rest, 38, 0, true⟩)) := by
        unfold appendA
        simp only [Try.underlying22, c38, if_pos (show 0 < 9 by omega), if_neg hm0, hx', z38, b38]
        have e0 : sliceCells Try.prog (upd h3 (n + 2) ⟨[], 38, 0, true⟩) 9 (.slice (some ⟨n + 2, 0, none⟩) 0 1) = some [] := by simp [sliceCells]
        rw [e0]
        simp
        omega
      simp -dsimp [t0, t1, t3, t6, t10, -sliceA, hsv, ha, -eff, -allocs, eff_at, allocs_at]
      have hml := motCells_length rest
      refine .inr ⟨n + 3, _, by rw [if_pos rfl], fun L hL => by rw [if_neg (by omega), if_neg (by omega), if_neg (by omega)], _, _, ⟨rfl, rfl⟩, hml, some ⟨n + 3, 0, none⟩, 11, rfl, fun h => (nomatch h), fun _ => ⟨⟨n + 3, 0, none⟩, ⟨motCells rest, 38, 0, false⟩, rfl, by rw [upd_at, if_pos rfl], rfl, rfl, by simp [hml], by simp [← hml]⟩⟩
  rintro T h4 p ⟨t0, t1, t3, t6, t10, hp, hs4, Ac, cc, t11, hrc⟩
  refine Sat.lt fun hlt4 => ?_
  have g0 := (hs4 n (by omega)).trans f0
  have g1 := (hs4 (n + 1) (by omega)).trans f1
  have hr4 : RO h4 9 (.slice Ad l.length cd) (motCells l) l.length := hr2.fz fun L b x _ => by rw [hs4 L (hl2 L b x)]; exact x
  have hk4 : ∀ L, L < n → h4 L = h L := fun L hL => by rw [hs4 L (by omega)]; exact hk2 L hL
  refine Sat.sq ?_
  refine Sat.sq ?_
  refine Sat.reg (by kernel_rfl) ?_
  simp -dsimp [t6, t10, g0, g1]
  refine Sat.ite rfl (fun hc => ?_) (fun hc => ?_)
  · have hc : a = b := by rw [P3.eq_iff]; simpa using hc
    rw [if_pos hc] at hrm
    refine Sat.sq ?_
    refine Sat.reg (by kernel_rfl) ?_
    simp -dsimp [t11]
    refine Sat.ret ?_
    try simp -dsimp only [thenH_ret, blockA_ret, thenA_ret]
    exact RetQ.ret (r := .tuple #[.slice Ac rest.length cc, .int .i64 0]) (by rfl) ⟨by omega, hk4, _, by rw [hrm], by rw [hrm]; exact hrc⟩
  have hab : ¬ a = b := by
    rw [P3.eq_iff]; simp at hc; omega
  have hpos : 0 < l.length := by
    rcases Nat.eq_zero_or_pos l.length with h0 | h0
    · exact absurd (hbe h0).symm hab
    · exact h0
  rw [if_neg hab] at hrm
  refine Sat.skip ?_
  simp -dsimp
  refine Sat.sq ?_
  refine Sat.reg (by kernel_rfl) ?_
  simp -dsimp [t0, t1]
  refine (w64 hr4 few (by omega) _).useH ?_
  have hlm0 : likeM l i = l[(min i ((l.length : Int) - 1)).toNat]! := by
    simp only [likeM]
    split
    · rw [show (min i ((l.length : Int) - 1)).toNat = i.toNat by omega]
    · try rw [if_pos hpos]
      rw [show (min i ((l.length : Int) - 1)).toNat = l.length - 1 by omega]
  generalize rateM l i = rate at *
  generalize likeM l i = lk at *
  simp -dsimp
  refine Sat.join (fun T h' n' => find T 0 = some (.slice Ad l.length cd) ∧ find T 1 = some (.int .i64 i) ∧ find T 3 = some (.int .i64 safe) ∧ find T 6 = some (.pointer (some ⟨n, 0, none⟩)) ∧ find T 10 = some (.pointer (some ⟨n + 1, 0, none⟩)) ∧ find T 11 = some (.slice Ac rest.length cc) ∧ find T 12 = some (.int .i64 rate) ∧ h' = h4 ∧ n' = p ∧ ¬ (b.z < 1000 ∧ rate = 0)) ?_ ?_
  · refine Sat.sq ?_
    refine Sat.reg (by kernel_rfl) ?_
    by_cases hz : b.z < 1000
    · by_cases hq : rate = 0
      · subst hq
        rw [if_pos ⟨hz, rfl⟩] at hrm
        simp -dsimp [t10, g1, hz]
        refine Sat.cond (t := true) (by rfl) ?_
        refine Sat.sq ?_
        refine Sat.reg (by kernel_rfl) ?_
        simp -dsimp
        refine Sat.ret ?_
        try simp -dsimp only [thenH_ret, blockA_ret, thenA_ret]
        exact RetQ.ret (r := .tuple #[.slice none 0 0, .int .i64 13]) (by rfl) ⟨by omega, hk4, _, by rw [hrm], by rw [hrm]; exact RO.nil⟩
      · simp -dsimp [t10, g1, hz, hq]
        refine Sat.ite rfl (fun hh => absurd (by simpa using hh) hq) (fun hh => ?_)
        refine Sat.skip ?_
        simp -dsimp [t0, t1, t3, t6, t10, t11, hq]
    · simp -dsimp [t10, g1, hz]
      refine Sat.cond (t := false) (by rfl) ?_
      refine Sat.skip ?_
      simp -dsimp [t0, t1, t3, t6, t10, t11, hz]
  rintro T h6 n6 ⟨t0, t1, t3, t6, t10, t11, t12, rfl, rfl, hnb⟩
  rw [if_neg hnb] at hrm
  obtain ⟨B, o, sp, bb, hB, hbo, am⟩ := hr4.mot (i := min i ((l.length : Int) - 1)) (by omega) (by omega)
  rw [← hlm0] at am
  have W : IntKind.i64.wrap ((l.length : Int) - 1) = (l.length : Int) - 1 := wrap_in (by omega) (by omega)
  have nB := ne2 (show B < n6 from hlt4 B bb hB)
  have nn0 := ne2 (show n < n6 by omega)
  have nn1 := ne2 (show n + 1 < n6 by omega)
  have nn00 := ne2 (show n < n6 + 1 by omega)
  have nn01 := ne2 (show n + 1 < n6 + 1 by omega)
  refine Sat.sq ?_
  refine Sat.reg (by kernel_rfl) ?_
  simp -dsimp [t0, t1, W, -indexAddrA, am.idx, ↓am.l38, hB, nB]
  refine Sat.sq ?_
  refine Sat.reg (by kernel_rfl) ?_
  simp -dsimp [t3, t6, t10, g0, g1, nn0, nn1]
  refine Sat.sq ?_
  refine Sat.reg (by kernel_rfl) ?_
  simp -dsimp
  refine Sat.sq ?_
  refine Sat.reg (by kernel_rfl) ?_
  simp -dsimp [t6, g0, nn0, nn1, nn00, nn01]
  have e3 : upd (upd (upd h6 n6 ⟨lk.cells, 38, 0, true⟩) (n6 + 1) ⟨wayC a b safe, 36, 0, true⟩) (n6 + 2) ⟨[.int .i64 a.x, .int .i64 a.y, .int .i64 a.z], 36, 0, true⟩ (n6 + 2) = some ⟨[.int .i64 a.x, .int .i64 a.y, .int .i64 a.z], 36, 0, true⟩ := by rw [upd_at, if_pos rfl]
  have e4 : upd (upd (upd h6 n6 ⟨lk.cells, 38, 0, true⟩) (n6 + 1) ⟨wayC a b safe, 36, 0, true⟩) (n6 + 2) ⟨[.int .i64 a.x, .int .i64 a.y, .int .i64 a.z], 36, 0, true⟩ (n6 + 1) = some ⟨wayC a b safe, 36, 0, true⟩ := by rw [upd_at, if_neg (by omega), upd_at, if_pos rfl]
  have e5 : upd (upd (upd h6 n6 ⟨lk.cells, 38, 0, true⟩) (n6 + 1) ⟨wayC a b safe, 36, 0, true⟩) (n6 + 2) ⟨[.int .i64 a.x, .int .i64 a.y, .int .i64 a.z], 36, 0, true⟩ n6 = some ⟨lk.cells, 38, 0, true⟩ := by rw [upd_at, if_neg (by omega), upd_at, if_neg (by omega), upd_at, if_pos rfl]
  have hk7 : ∀ L, L < n6 → upd (upd (upd h6 n6 ⟨lk.cells, 38, 0, true⟩) (n6 + 1) ⟨wayC a b safe, 36, 0, true⟩) (n6 + 2) ⟨[.int .i64 a.x, .int .i64 a.y, .int .i64 a.z], 36, 0, true⟩ L = h6 L := fun L hL => by rw [upd_at, if_neg (by omega), upd_at, if_neg (by omega), upd_at, if_neg (by omega)]
  have hl7 := lt_fresh (b := ⟨[.int .i64 a.x, .int .i64 a.y, .int .i64 a.z], 36, 0, true⟩) (lt_fresh (b := ⟨wayC a b safe, 36, 0, true⟩) (lt_fresh (b := ⟨lk.cells, 38, 0, true⟩) hlt4))
  dsimp only [Mot.cells] at e3 e4 e5 hk7 hl7
  generalize upd (upd (upd h6 n6 _) _ _) _ _ = h7 at *
  have hrc7 : RO h7 9 (.slice Ac rest.length cc) (motCells rest) rest.length := hrc.fz fun L b x _ => by rw [hk7 L (hlt4 L b x)]; exact x
  have hk7' : ∀ L, L < n → h7 L = h L := fun L hL => by rw [hk7 L (by omega)]; exact hk4 L hL
  refine Sat.join (fun T h' n' => find T 11 = some (.slice Ac rest.length cc) ∧ (∀ L, L < n → h' L = h L) ∧ (∀ L, L < n6 → h' L = h7 L) ∧ n6 + 3 ≤ n' ∧ ∃ s, find T 15 = some s ∧ GS h' 38 9 s (motCells (legsTo a b safe rate lk.tool lk.block 4)) (legsTo a b safe rate lk.tool lk.block 4).length (n6 + 3) n') ?_ ?_
  · refine Sat.sq ?_
    refine Sat.reg (by kernel_rfl) ?_
    simp -dsimp
    refine Sat.block ?_
    refine Sat.loop (ι := Nat) (fun j T h' n' => (find T 11 = some (.slice Ac rest.length cc) ∧ find T 12 = some (.int .i64 rate) ∧ find T 13 = some (.pointer (some ⟨n6, 0, none⟩)) ∧ find T 14 = some (.slice (some ⟨n6 + 1, 0, none⟩) 4 1) ∧ find T 16 = some (.pointer (some ⟨n6 + 2, 0, none⟩)) ∧ find T 17 = some (.int .i64 j)) ∧
      j ≤ 4 ∧ (∀ L, L < n → h' L = h L) ∧ (∀ L, L < n6 → h' L = h7 L) ∧ n6 + 3 ≤ n' ∧ h' (n6 + 2) = some ⟨[.int .i64 (ptR a b safe j).x, .int .i64 (ptR a b safe j).y, .int .i64 (ptR a b safe j).z], 36, 0, true⟩ ∧ h' n6 = some ⟨lk.cells, 38, 0, true⟩ ∧ h' (n6 + 1) = some ⟨wayC a b safe, 36, 0, true⟩ ∧
      ∃ s, find T 15 = some s ∧ GS h' 38 9 s (motCells (legsTo a b safe rate lk.tool lk.block j)) (legsTo a b safe rate lk.tool lk.block j).length (n6 + 3) n') (fun j => 4 - j) 0 ?_ ?_
    · exact ⟨⟨by simp [find, t11], by simp [find, t12], by simp [find], by simp [find], by simp [find], by simp [find]⟩, by omega, hk7', fun _ _ => rfl, by omega, by simpa [ptR] using e3, e5, e4, _, by simp [find], .nil⟩
    · rintro j T h' n' ⟨⟨t11, t12, t13, t14, t16, t17⟩, j4, hk, hfz, ln, m0, m2, mW, s, t15, hg⟩
      refine Sat.lt fun hltj => ?_
      refine Sat.sq ?_
      refine Sat.sq ?_
      refine Sat.reg (by kernel_rfl) ?_
      simp -dsimp [t17]
      refine Sat.ite rfl (fun hc => ?_) (fun hc => ?_)
      · have hc : j < 4 := by
          have : (j : Int) < 4 := by simpa using hc
          omega
        have hw := fun (h'' : Heap) (hh : h'' (n6 + 1) = some ⟨wayC a b safe, 36, 0, true⟩) => way_at hh j hc
        have hj4 : (j : Int) < 4 := by omega
        refine Sat.skip ?_
        simp -dsimp
        have x0 := ne2 (show n6 < n' by omega)
        have x1 := ne2 (show n6 + 1 < n' by omega)
        have x2 := ne2 (show n6 + 2 < n' by omega)
        refine Sat.sq ?_
        refine Sat.block ?_
        refine Sat.sq ?_
        refine Sat.drw u27_19 mixed (by kernel_rfl) (by kernel_rfl) (by kernel_rfl) (by kernel_rfl) ?_
        simp -dsimp [t13, t14, t16, t17, Try.underlying95, hj4, hc, ↓hw, mW, m0, m2, Mot.cells, x0, x1, x2]
        have X2 : ∀ L, L < n' → upd h' n' ⟨(legMot a b safe rate lk.tool lk.block j).cells, 38, 0, true⟩ L = h' L := fun L hL => by
          rw [upd_at, if_neg (by omega)]
        have X4 : upd h' n' ⟨(legMot a b safe rate lk.tool lk.block j).cells, 38, 0, true⟩ n' = some ⟨(legMot a b safe rate lk.tool lk.block j).cells, 38, 0, true⟩ := by
          rw [upd_at, if_pos rfl]
        refine Sat.join (fun T h'' n'' => (find T 11 = some (.slice Ac rest.length cc) ∧ find T 12 = some (.int .i64 rate) ∧ find T 13 = some (.pointer (some ⟨n6, 0, none⟩)) ∧ find T 14 = some (.slice (some ⟨n6 + 1, 0, none⟩) 4 1) ∧ find T 16 = some (.pointer (some ⟨n6 + 2, 0, none⟩)) ∧ find T 17 = some (.int .i64 j)) ∧
          find T 15 = some s ∧ find T 18 = some (.pointer (some ⟨n', 0, none⟩)) ∧
          h'' = upd h' n' ⟨(legMot a b safe rate lk.tool lk.block j).cells, 38, 0, true⟩ ∧ n'' = n' + 1) ?_ ?_
        · refine Sat.sq ?_
          refine Sat.reg (by kernel_rfl) ?_
          simp -dsimp [t17]
          refine Sat.ite rfl (fun hz => ?_) (fun hz => ?_)
          · have hz : j = 3 := by
              have : (j : Int) = 3 := by simpa using hz
              omega
            have hl : legMot a b safe rate lk.tool lk.block j = ⟨(ptR a b safe j).x, (ptR a b safe j).y, (ptR a b safe j).z, (ptR a b safe (j + 1)).x, (ptR a b safe (j + 1)).y, (ptR a b safe (j + 1)).z, rate, lk.tool, lk.block⟩ := by simp only [legMot, if_pos hz]
            rw [hl]
            refine Sat.reg (by kernel_rfl) ?_
            simp -dsimp [t11, t12, t13, t14, t15, t16, t17, Mot.cells]
          · have hz : ¬ j = 3 := by
              have : ¬ (j : Int) = 3 := by simpa using hz
              omega
            have hl : legMot a b safe rate lk.tool lk.block j = ⟨(ptR a b safe j).x, (ptR a b safe j).y, (ptR a b safe j).z, (ptR a b safe (j + 1)).x, (ptR a b safe (j + 1)).y, (ptR a b safe (j + 1)).z, 0, lk.tool, lk.block⟩ := by simp only [legMot, if_neg hz]
            rw [hl]
            refine Sat.skip ?_
            simp -dsimp [t11, t12, t13, t14, t15, t16, t17, Mot.cells]
        rintro T2 h2 n2 ⟨⟨t11, t12, t13, t14, t16, t17⟩, t15, t18, hh2, rfl⟩
        rw [← hh2] at X2 X4
        have hlegs : legsTo a b safe rate lk.tool lk.block (j + 1) = legsTo a b safe rate lk.tool lk.block j ++ (if ptR a b safe j = ptR a b safe (j + 1) then [] else [legMot a b safe rate lk.tool lk.block j]) := rfl
        have hleg := legsTo_len a b safe rate lk.tool lk.block j
        have hg2 : GS h2 38 9 s (motCells (legsTo a b safe rate lk.tool lk.block j)) (legsTo a b safe rate lk.tool lk.block j).length (n6 + 3) n' := hg.frame (fun L h1 h3 => X2 L h3) (Nat.le_refl _)
        generalize legMot a b safe rate lk.tool lk.block j = lm at *
        have m0' := (X2 (n6 + 2) (by omega)).trans m0
        have m2' := (X2 n6 (by omega)).trans m2
        have mW' := (X2 (n6 + 1) (by omega)).trans mW
        have hk2 : ∀ L, L < n → h2 L = h L := fun L hL => by rw [X2 L (by omega)]; exact hk L hL
        have hfz2 : ∀ L, L < n6 → h2 L = h7 L := fun L h1 => (X2 L (by omega)).trans (hfz L h1)
        clear hh2
        refine Sat.join (fun T h'' n'' => (find T 11 = some (.slice Ac rest.length cc) ∧ find T 12 = some (.int .i64 rate) ∧ find T 13 = some (.pointer (some ⟨n6, 0, none⟩)) ∧ find T 14 = some (.slice (some ⟨n6 + 1, 0, none⟩) 4 1) ∧ find T 16 = some (.pointer (some ⟨n6 + 2, 0, none⟩)) ∧ find T 17 = some (.int .i64 j)) ∧
          (∀ L, L < n6 + 3 → h'' L = h2 L) ∧ n' + 1 ≤ n'' ∧ ∃ s, find T 15 = some s ∧ GS h'' 38 9 s (motCells (legsTo a b safe rate lk.tool lk.block (j + 1))) (legsTo a b safe rate lk.tool lk.block (j + 1)).length (n6 + 3) n'') ?_ ?_
        · refine Sat.sq ?_
          refine Sat.drw u27_22 mixed (by kernel_rfl) (by kernel_rfl) (by kernel_rfl) (by kernel_rfl) ?_
          simp -dsimp [t14, t16, t17, Try.underlying95, hj4, hc, ↓hw, mW', m0']
          refine Sat.ite rfl (fun hz => ?_) (fun hz => ?_)
          · have hz : ¬ ptR a b safe j = ptR a b safe (j + 1) := by
              rw [P3.eq_iff]
              simp only [Bool.or_eq_true, Bool.not_eq_true', decide_eq_false_iff_not] at hz
              omega
            rw [hlegs, if_neg hz, motCells_append, List.length_append, List.length_singleton, show motCells [lm] = lm.cells by simp [motCells]]
            refine Sat.reg (by kernel_rfl) ?_
            have hg3 : GS (upd h2 (n' + 1) ⟨lm.cells, 38, 0, true⟩) 38 9 s (motCells (legsTo a b safe rate lk.tool lk.block j)) (legsTo a b safe rate lk.tool lk.block j).length (n6 + 3) n' := hg2.frame (fun L h1 h3 => by rw [upd_at, if_neg (by omega)]) (Nat.le_refl _)
            obtain ⟨s', E, ha, hfr, hal, hal2, hg5⟩ := hg3.append (P := Try.prog) (t := 22) (L := n' + 2) (B := n' + 1) (xs := lm.cells) (bo := true) (by' := 72) Try.underlying22 c38 b38 z38 rfl (by omega) (by omega) (by rw [upd_at, if_pos rfl]) rfl (by omega) (by omega) (by omega)
            have Y1 : ∀ L, L < n6 + 3 → eff (upd h2 (n' + 1) ⟨lm.cells, 38, 0, true⟩) E L = h2 L := fun L hL => by
              rw [hfr _ (by omega), upd_at, if_neg (by omega)]
            dsimp only [Mot.cells] at ha hg5 Y1
            simp -dsimp [t11, t12, t13, t14, t15, t16, t17, t18, X4, Mot.cells, ha, -eff, -allocs]
            exact ⟨Y1, by omega, hg5⟩
          · have hz : ptR a b safe j = ptR a b safe (j + 1) := by
              rw [P3.eq_iff]
              simp only [Bool.or_eq_false_iff, Bool.not_eq_false', decide_eq_true_eq] at hz
              omega
            rw [hlegs, if_pos hz, List.append_nil]
            refine Sat.skip ?_
            simp -dsimp [t11, t12, t13, t14, t15, t16, t17]
            exact hg2.frame (fun _ _ _ => rfl) (by omega)
        rintro T3 h3 n3 ⟨⟨t11, t12, t13, t14, t16, t17⟩, Y1, ln3, s, t15, hg3⟩
        have W3 : IntKind.i64.wrap ((j : Int) + 1) = (j : Int) + 1 := wrap_in (by omega) (by omega)
        have z0 := (Y1 (n6 + 2) (by omega)).trans m0'
        have z2 := (Y1 n6 (by omega)).trans m2'
        have z4 := (Y1 (n6 + 1) (by omega)).trans mW'
        have nn3 := ne2 (show n6 + 2 < n3 by omega)
        refine Sat.reg (by kernel_rfl) ?_
        simp -dsimp [t14, t16, t17, Try.underlying95, hj4, hc, ↓hw, z4, z0, nn3]
        refine Sat.reg (by kernel_rfl) ?_
        simp -dsimp [t11, t12, t13, t14, t15, t16, t17, W3]
        refine ⟨j + 1, ⟨by omega, by omega, fun L hL => ?_, fun L h1 => ?_, by omega, ⟨rfl, rfl, rfl⟩, z2, z4, hg3.frame (fun L h1 h4 => by rw [upd_at, if_neg (by omega)]) (Nat.le_refl _)⟩, by omega⟩
        · rw [if_neg (by omega), Y1 L (by omega)]; exact hk2 L hL
        · rw [if_neg (by omega), Y1 L (by omega)]; exact hfz2 L h1
      · have hc : j = 4 := by
          have : ¬ (j : Int) < 4 := by simpa using hc
          omega
        subst hc
        refine Sat.exit ?_
        simp -dsimp [t11, t15]
        exact ⟨hk, hfz, ln, hg⟩
  · rintro T h8 n8 ⟨t12, hk8, hf8, ln8, s, t16, hg⟩
    have hrc8 := hrc7.fz (h' := h8) fun L bb x y => by
      by_cases hL : L < n6
      · rw [hf8 L hL]; exact x
      · exfalso
        have h3 := hl7 L bb x
        rcases (show L = n6 ∨ L = n6 + 1 ∨ L = n6 + 2 by omega) with e | e | e
        · subst e; rw [e5] at x; cases x; cases y
        · subst e; rw [e4] at x; cases x; cases y
        · subst e; rw [e3] at x; cases x; cases y
    have hleg := legsTo_len a b safe rate lk.tool lk.block 4
    generalize legsTo a b safe rate lk.tool lk.block 4 = out at *
    obtain ⟨s', E, ha, hfr, hal, hal2, hg2⟩ := GS.appendAny hg hrc8.cells (motCells_length rest) (L := n8) (Nat.le_refl _) (by omega) (by omega)
    have hk9 : ∀ L, L < n → eff h8 E L = h L := fun L hL => by rw [hfr L (by omega)]; exact hk8 L hL
    rw [← motCells_append, ← List.length_append] at hg2
    have hlt9 : n ≤ allocs n8 E := by omega
    obtain ⟨A', c', e'⟩ := hg2.val
    refine Sat.sq ?_
    refine Sat.reg (by kernel_rfl) ?_
    simp -dsimp [t12, t16, ha, -eff, -allocs]
    generalize eff h8 E = h9 at *
    generalize allocs n8 E = n9 at *
    rcases GS.toRO hg2 with hro | ⟨L, bb, hb, hL1, hL2, hro⟩
    · refine Sat.ret ?_
      try simp -dsimp only [thenH_ret, blockA_ret, thenA_ret]
      refine RetQ.ret (r := .tuple #[s', .int .i64 0]) (by subst e'; rfl) ⟨hlt9, hk9, _, by rw [hrm], by rw [hrm]; exact hro⟩
    · refine Sat.freeze L hb ?_
      refine Sat.ret ?_
      try simp -dsimp only [thenH_ret, blockA_ret, thenA_ret]
      refine RetQ.ret (r := .tuple #[s', .int .i64 0]) (by subst e'; rfl) ⟨hlt9, fun L' hL' => by rw [upd_at, if_neg (by omega)]; exact hk9 L' hL', _, by rw [hrm], by rw [hrm]; exact hro⟩
attribute [local simp] Try.underlying53 c53
/-- ControllerRestart, walked. -/
theorem w5 {h : Heap} {lv : Value} {l : List Mot} (hr : RO h 9 lv (motCells l) l.length) (few : l.length ≤ 9223372036854775807) (i : Int) (a q : P3) (n : Nat) :
    Dm.Spec Try.prog 5 [lv, .int .i64 i, .agg #[.int .i64 a.x, .int .i64 a.y, .int .i64 a.z, .int .i64 q.x, .int .i64 q.y, .int .i64 q.z]] h n fun r _ _ => r = .bool true := by
  refine Spec.body Try.func5 rfl (by kernel_rfl) Try.ntmps5 (by rw [Try.results5]) (Nat.le_of_ble_eq_true rfl) ?_
  refine Sat.lt fun hlt => ?_
  obtain ⟨Ad, cd, rfl⟩ := hr.len
  have hl1 := lt_fresh (b := ⟨[.int .i64 a.x, .int .i64 a.y, .int .i64 a.z, .int .i64 q.x, .int .i64 q.y, .int .i64 q.z], 53, 0, true⟩) hlt
  have hB : upd h n ⟨[.int .i64 a.x, .int .i64 a.y, .int .i64 a.z, .int .i64 q.x, .int .i64 q.y, .int .i64 q.z], 53, 0, true⟩ n = some ⟨[.int .i64 a.x, .int .i64 a.y, .int .i64 a.z, .int .i64 q.x, .int .i64 q.y, .int .i64 q.z], 53, 0, true⟩ := by rw [upd_at, if_pos rfl]
  have hr1 : RO (upd h n ⟨[.int .i64 a.x, .int .i64 a.y, .int .i64 a.z, .int .i64 q.x, .int .i64 q.y, .int .i64 q.z], 53, 0, true⟩) 9 (.slice Ad l.length cd) (motCells l) l.length := hr.fz fun L b x _ => by rw [upd_at, if_neg (by have := hlt L b x; omega)]; exact x
  refine Sat.sq ?_
  refine Sat.reg (by kernel_rfl) ?_
  simp -dsimp
  generalize upd h n _ = h1 at *
  refine Sat.sq ?_
  refine Sat.sq ?_
  refine Sat.reg (by kernel_rfl) ?_
  simp -dsimp
  refine w12.useH ?_
  simp -dsimp
  refine Sat.ite rfl (fun hc => ?_) (fun hc => ?_)
  · refine Sat.sq ?_
    refine Sat.reg (by kernel_rfl) ?_
    simp -dsimp
    refine w12.useH ?_
    simp -dsimp
    refine Sat.ret ?_
    try simp -dsimp only [thenH_ret, blockA_ret, thenA_ret]
    exact RetQ.ret (r := .bool true) (by rfl) rfl
  have hc : l.length ≤ 20 := by
    have : ¬ (20 : Int) < l.length := by simpa using hc
    omega
  refine Sat.skip ?_
  simp -dsimp
  refine Sat.sq ?_
  refine Sat.reg (by kernel_rfl) ?_
  simp -dsimp [hB]
  refine (w26 hr1 (by omega) i a q.z _).onH ?_
  rintro r h2 n2 ⟨hn2, hk2, s, rfl, ro2⟩
  have hB2 := (hk2 n (by omega)).trans hB
  have hr2 : RO h2 9 (.slice Ad l.length cd) (motCells l) l.length := hr1.fz fun L b x _ => by rw [hk2 L (hl1 L b x)]; exact x
  simp -dsimp
  refine Sat.lt fun hl2 => ?_
  refine Sat.sq ?_
  refine Sat.reg (by kernel_rfl) ?_
  simp -dsimp [hB2]
  refine (w27 hr2 (by omega) i a q.z _).onH ?_
  rintro r h3 n3 ⟨hn3, hk3, s3, rfl, ro3⟩
  have ro2' : RO h3 9 s (motCells (restM l i a q.z).1) (restM l i a q.z).1.length := ro2.fz fun L b x _ => by rw [hk3 L (hl2 L b x)]; exact x
  simp -dsimp
  refine Sat.sq ?_
  refine Sat.reg (by kernel_rfl) ?_
  simp -dsimp
  refine (w25 ro2' ro3 (by
    unfold restM; split
    · simp
    · simp only
      split
      · simp
      · split
        · simp; omega
        · split
          · simp
          · have := legsTo_len a (begM l i a) q.z (rateM l i) (likeM l i).tool (likeM l i).block 4
            simp; omega) _).useH ?_
  simp -dsimp
  refine Sat.ret ?_
  try simp -dsimp only [thenH_ret, blockA_ret, thenA_ret]
  exact RetQ.ret (r := .bool true) (by rfl) rfl

end Go.Proofs.Ytoinimkmoojcoaa
