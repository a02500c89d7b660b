/- The abstract machine, part K: regions whose order is open. -/
import Derived.Test.YtocbmekcokenoaaDoorG1
import Derived.Laws.Externs
import Derived.Below
import Derived.DataReads
set_option linter.unusedSimpArgs false
set_option linter.unusedVariables false
namespace Go.Dm
open Go

/-- What the text's order says of one operation: what it puts, which labels it writes, the labels that it may make (from lo on, below hi), which ones it reads; all: it may read and write any. -/
structure PE where
  val : Value
  us : List (Nat × Blk)
  lo : Nat
  hi : Nat
  reads : List Nat
  all : Bool
def applyU (h : Heap) (us : List (Nat × Blk)) : Heap := us.foldl (fun h u => upd h u.1 u.2) h
theorem eff_applyU (h : Heap) (e : Option (Nat × Blk)) : eff h e = applyU h e.toList := by cases e <;> rfl

/-- Nothing that one writes is read or written by the other. -/
def apart (p q : PE) : Prop :=
  (p.all = true → q.us = [] ∧ q.lo = q.hi ∧ q.all = false) ∧ (q.all = true → p.us = [] ∧ p.lo = p.hi ∧ p.all = false) ∧
  (∀ u ∈ p.us, u.1 ∉ q.reads ∧ ∀ v ∈ q.us, u.1 ≠ v.1) ∧ (∀ u ∈ q.us, u.1 ∉ p.reads)

/-- A call that makes one label at most, whichever it is given. -/
structure SpecL (P : Program) (g : FuncId) (args : List Value) (h : Heap) (L : Nat) (r : Value) (us : List (Nat × Blk)) : Prop where
  run : ∀ m w args' n, All2 (VR3 m) args args' → HRel h m w → (∀ L' g p, m L' g = some p → L' < n) → (∀ g, m L g = none) → L < n →
    CallP P g args'.toArray w fun e w' => ∃ r' m', e = .returned r' ∧ VR3 m' r r' ∧ HRel (applyU h us) m' w' ∧ Step h m w (applyU h us) m' w' ∧ ∀ L' g p, m' L' g = some p → (∃ g' p', m L' g' = some p') ∨ L' = L
def OkAt (P : Program) (ops : Array Oper) (o : Oper) (T : TEnv) (h : Heap) (p : PE) : Prop :=
  (wantedA ops o T = some false ∧ p.val = undef ∧ p.us = [] ∧ p.hi = p.lo ∧ p.all = false ∧ p.reads = []) ∨
  (wantedA ops o T = some true ∧ callOf o = none ∧ ∃ e, lop P o T h p.lo = some (p.val, e) ∧ p.us = e.toList ∧ p.hi = allocs p.lo e ∧ p.reads = lreads o T ∧ p.all = false) ∨
  (wantedA ops o T = some true ∧ ∃ c g vs, callOf o = some c ∧ calleeA T c = some (g, vs) ∧ p.us = [] ∧ p.hi = p.lo ∧ p.all = false ∧
    ∀ h2 n2, (∀ L ∈ p.reads, h2 L = h L) → Spec P g vs h2 n2 fun r h' n' => r = p.val ∧ h' = h2 ∧ n' = n2) ∨
  (wantedA ops o T = some true ∧ ∃ c g vs, callOf o = some c ∧ calleeA T c = some (g, vs) ∧ p.all = true ∧ p.lo ≤ p.hi ∧ (∀ u ∈ p.us, u.1 < p.hi) ∧
    Spec P g vs h p.lo fun r h' n' => r = p.val ∧ h' = applyU h p.us ∧ n' = p.hi) ∨
  (wantedA ops o T = some true ∧ ∃ c g vs, callOf o = some c ∧ calleeA T c = some (g, vs) ∧ p.all = false ∧ p.hi = p.lo + 1 ∧ ∀ h2, (∀ L ∈ p.reads, h2 L = h L) → SpecL P g vs h2 p.lo p.val p.us)

def RunD (P : Program) (ops : Array Oper) : List Oper → TEnv → Heap → Nat → List PE → (TEnv → Heap → Nat → List PE → Prop) → Prop
  | [], T, h, n, acc, K => K T h n acc
  | o :: rest, T, h, n, acc, K =>
    match wantedA ops o T with
    | none => False
    | some b =>
      if b = true then
        match callOf o with
        | some c => match calleeA T c with
          | some (g, vs) =>
            (∃ r F, (∀ h2 n2, (∀ L ∈ F, h2 L = h L) → Spec P g vs h2 n2 fun r' h' n' => r' = r ∧ h' = h2 ∧ n' = n2) ∧ RunD P ops rest (putA T o.dst r) h n (acc ++ [⟨r, [], n, n, F, false⟩]) K) ∨
            (∃ r us n', n ≤ n' ∧ (∀ u ∈ us, u.1 < n') ∧ (Spec P g vs h n fun r' h' n1 => r' = r ∧ h' = applyU h us ∧ n1 = n') ∧ RunD P ops rest (putA T o.dst r) (applyU h us) n' (acc ++ [⟨r, us, n, n', [], true⟩]) K) ∨
            (∃ r us F, (∀ h2, (∀ L ∈ F, h2 L = h L) → SpecL P g vs h2 n r us) ∧ RunD P ops rest (putA T o.dst r) (applyU h us) (n + 1) (acc ++ [⟨r, us, n, n + 1, F, false⟩]) K)
          | none => False
        | none => match lop P o T h n with
          | some (v, e) => RunD P ops rest (putA T o.dst v) (eff h e) (allocs n e) (acc ++ [⟨v, e.toList, n, allocs n e, lreads o T, false⟩]) K
          | none => False
      else RunD P ops rest (putA T o.dst undef) h n (acc ++ [⟨undef, [], n, n, [], false⟩]) K

/-- The state behind some of the operations. -/
def TS (ops : Array Oper) (pl : List PE) (T : TEnv) (S : List Nat) : TEnv := S.foldl (fun T i => putA T ((ops[i]?).bind (·.dst)) ((pl[i]?).map (·.val) |>.getD undef)) T
def HS (pl : List PE) (h : Heap) (S : List Nat) : Heap := S.foldl (fun h i => applyU h ((pl[i]?).map (·.us) |>.getD [])) h
theorem TS_snoc (ops : Array Oper) (pl : List PE) (T : TEnv) (S : List Nat) (i : Nat) : TS ops pl T (S ++ [i]) = putA (TS ops pl T S) ((ops[i]?).bind (·.dst)) ((pl[i]?).map (·.val) |>.getD undef) := by simp [TS]
theorem HS_snoc (pl : List PE) (h : Heap) (S : List Nat) (i : Nat) : HS pl h (S ++ [i]) = applyU (HS pl h S) ((pl[i]?).map (·.us) |>.getD []) := by simp [HS]


/-- The plan that a run in the text's order lays down. -/
structure Plan (P : Program) (ops : Array Oper) (T : TEnv) (h : Heap) (n : Nat) (pl : List PE) (k : Nat) : Prop where
  len : pl.length = k
  ok : ∀ (i : Nat) (p : PE) (o : Oper), pl[i]? = some p → ops[i]? = some o → OkAt P ops o (TS ops pl T (List.range i)) (HS pl h (List.range i)) p
  mono : ∀ (i : Nat) (p : PE), pl[i]? = some p → n ≤ p.lo ∧ p.lo ≤ p.hi
  chain : ∀ (i j : Nat) (p q : PE), i < j → pl[i]? = some p → pl[j]? = some q → p.hi ≤ q.lo

theorem TS_congr {ops : Array Oper} {pl pl' : List PE} {T : TEnv} {S : List Nat} (h : ∀ i ∈ S, pl[i]? = pl'[i]?) : TS ops pl T S = TS ops pl' T S := by
  unfold TS
  induction S generalizing T with
  | nil => rfl
  | cons a S ih =>
    simp only [List.foldl_cons]
    rw [h a (by simp)]
    exact ih fun i hi => h i (by simp [hi])
theorem HS_congr {pl pl' : List PE} {h0 : Heap} {S : List Nat} (h : ∀ i ∈ S, pl[i]? = pl'[i]?) : HS pl h0 S = HS pl' h0 S := by
  unfold HS
  induction S generalizing h0 with
  | nil => rfl
  | cons a S ih =>
    simp only [List.foldl_cons]
    rw [h a (by simp)]
    exact ih fun i hi => h i (by simp [hi])

theorem plan_of_run {P : Program} {ops : Array Oper} {T0 : TEnv} {h0 : Heap} {n0 : Nat} {K : TEnv → Heap → Nat → List PE → Prop} : ∀ (l : List Oper) (T : TEnv) (h : Heap) (n : Nat) (acc : List PE),
    (∀ i, l[i]? = ops[acc.length + i]?) → Plan P ops T0 h0 n0 acc acc.length → T = TS ops acc T0 (List.range acc.length) → h = HS acc h0 (List.range acc.length) → n0 ≤ n → (∀ (i : Nat) (p : PE), acc[i]? = some p → p.hi ≤ n) →
    RunD P ops l T h n acc K → ∃ pl n', Plan P ops T0 h0 n0 pl (acc.length + l.length) ∧ n0 ≤ n' ∧ (∀ (i : Nat) (p : PE), pl[i]? = some p → p.hi ≤ n') ∧ K (TS ops pl T0 (List.range (acc.length + l.length))) (HS pl h0 (List.range (acc.length + l.length))) n' pl := by
  intro l
  induction l with
  | nil =>
    intro T h n acc hl hp hT hh hn hacc hrun
    exact ⟨acc, n, by simpa using hp, hn, hacc, by subst hT hh; simpa [RunD] using hrun⟩
  | cons o rest ih =>
    intro T h n acc hl hp hT hh hn hacc hrun
    have ho : ops[acc.length]? = some o := by have := hl 0; simpa using this.symm
    -- one more
    have one : ∀ (q : PE) (hq : OkAt P ops o T h q), q.lo = n → q.lo ≤ q.hi → RunD P ops rest (putA T o.dst q.val) (applyU h q.us) q.hi (acc ++ [q]) K →
        ∃ pl n', Plan P ops T0 h0 n0 pl (acc.length + (o :: rest).length) ∧ n0 ≤ n' ∧ (∀ (i : Nat) (p : PE), pl[i]? = some p → p.hi ≤ n') ∧ K (TS ops pl T0 (List.range (acc.length + (o :: rest).length))) (HS pl h0 (List.range (acc.length + (o :: rest).length))) n' pl := by
      intro q hq hlo hle hrun'
      have hold : ∀ i, i < acc.length → (acc ++ [q])[i]? = acc[i]? := fun i hi => List.getElem?_append_left hi
      have hTS : ∀ i, i ≤ acc.length → TS ops (acc ++ [q]) T0 (List.range i) = TS ops acc T0 (List.range i) := fun i hi => TS_congr fun j hj => hold j (by simp at hj; omega)
      have hHS : ∀ i, i ≤ acc.length → HS (acc ++ [q]) h0 (List.range i) = HS acc h0 (List.range i) := fun i hi => HS_congr fun j hj => hold j (by simp at hj; omega)
      have hnew : (acc ++ [q])[acc.length]? = some q := by simp
      have hcases : ∀ (i : Nat) (p : PE), (acc ++ [q])[i]? = some p → (i < acc.length ∧ acc[i]? = some p) ∨ (i = acc.length ∧ p = q) := by
        intro i p hi
        by_cases h1 : i < acc.length
        · rw [hold i h1] at hi; exact .inl ⟨h1, hi⟩
        · have h2 : i < (acc ++ [q]).length := (List.getElem?_eq_some_iff.1 hi).1
          have : i = acc.length := by simp at h2; omega
          subst this; rw [hnew] at hi; cases hi; exact .inr ⟨rfl, rfl⟩
      have hplan : Plan P ops T0 h0 n0 (acc ++ [q]) (acc ++ [q]).length := by
        refine ⟨rfl, ?_, ?_, ?_⟩
        · intro i p o' hi ho'
          rcases hcases i p hi with ⟨h1, h2⟩ | ⟨rfl, rfl⟩
          · rw [hTS i (by omega), hHS i (by omega)]; exact hp.ok i p o' h2 ho'
          · rw [hTS _ (Nat.le_refl _), hHS _ (Nat.le_refl _), ← hT, ← hh]
            rw [ho] at ho'; cases ho'; exact hq
        · intro i p hi
          rcases hcases i p hi with ⟨h1, h2⟩ | ⟨rfl, rfl⟩
          · exact hp.mono i p h2
          · exact ⟨by omega, hle⟩
        · intro i j p p' hij hi hj
          rcases hcases i p hi with ⟨h1, h2⟩ | ⟨rfl, rfl⟩
          · rcases hcases j p' hj with ⟨h3, h4⟩ | ⟨rfl, rfl⟩
            · exact hp.chain i j p p' hij h2 h4
            · have := hacc i p h2; omega
          · rcases hcases j p' hj with ⟨h3, h4⟩ | ⟨rfl, rfl⟩ <;> omega
      have hTn : putA T o.dst q.val = TS ops (acc ++ [q]) T0 (List.range (acc ++ [q]).length) := by
        rw [List.length_append, List.length_singleton, List.range_succ, TS_snoc, hTS _ (Nat.le_refl _), ← hT, hnew, ho]; rfl
      have hHn : applyU h q.us = HS (acc ++ [q]) h0 (List.range (acc ++ [q]).length) := by
        rw [List.length_append, List.length_singleton, List.range_succ, HS_snoc, hHS _ (Nat.le_refl _), ← hh, hnew]; rfl
      obtain ⟨pl, n', h1, h2, h3, h4⟩ := ih (putA T o.dst q.val) (applyU h q.us) q.hi (acc ++ [q]) (by
        intro i; have := hl (i + 1); simp at this ⊢; rw [this]; congr 1; omega) hplan hTn hHn (by omega) (by
        intro i p hi
        rcases hcases i p hi with ⟨x1, x2⟩ | ⟨rfl, rfl⟩
        · have := hacc i p x2; omega
        · exact Nat.le_refl _) hrun'
      have hlen : (acc ++ [q]).length + rest.length = acc.length + (o :: rest).length := by simp; omega
      rw [hlen] at h1 h4
      exact ⟨pl, n', h1, h2, h3, h4⟩
    unfold RunD at hrun
    split at hrun
    · exact hrun.elim
    rename_i b hw
    split at hrun
    rotate_left
    · rename_i hbf
      have hbf' : b = false := by simpa using hbf
      subst hbf'
      exact one ⟨undef, [], n, n, [], false⟩ (.inl ⟨hw, rfl, rfl, rfl, rfl, rfl⟩) rfl (Nat.le_refl _) hrun
    · rename_i hbt
      subst hbt
      split at hrun
      · rename_i c hc
        split at hrun
        · rename_i g vs hcal
          rcases hrun with ⟨r, F, hs, hrun⟩ | ⟨r, us, n', hle, hlt, hs, hrun⟩ | ⟨r, us, F, hs, hrun⟩
          · exact one ⟨r, [], n, n, F, false⟩ (.inr (.inr (.inl ⟨hw, c, g, vs, hc, hcal, rfl, rfl, rfl, hs⟩))) rfl (Nat.le_refl _) hrun
          · exact one ⟨r, us, n, n', [], true⟩ (.inr (.inr (.inr (.inl ⟨hw, c, g, vs, hc, hcal, rfl, hle, hlt, hs⟩)))) rfl hle hrun
          · exact one ⟨r, us, n, n + 1, F, false⟩ (.inr (.inr (.inr (.inr ⟨hw, c, g, vs, hc, hcal, rfl, rfl, hs⟩)))) rfl (Nat.le_succ n) hrun
        · exact hrun.elim
      · rename_i hc
        split at hrun
        · rename_i v e hlop
          refine one ⟨v, e.toList, n, allocs n e, lreads o T, false⟩ (.inr (.inl ⟨hw, hc, e, hlop, rfl, rfl, rfl, rfl⟩)) rfl (allocs_le n e) ?_
          rw [← eff_applyU]; exact hrun
        · exact hrun.elim

/-! ### Which slots an operation names -/
def usesOf (ops : Array Oper) (o : Oper) : List Nat :=
  (o.op.operands.toList.filterMap fun | .tmp t => some t | _ => none) ++ (match o.guard with | some (j, _) => ((ops[j]?).bind (·.dst)).toList | none => [])
def tmpsOK (ops : Array Oper) : Bool :=
  (List.range ops.size).all fun i => (List.range ops.size).all fun j => i == j || anc ops i j || anc ops j i ||
    match ops[i]?, ops[j]? with
    | some oi, some oj => match oj.dst with
      | some d => !((usesOf ops oi).contains d) && oi.dst != some d
      | none => true
    | _, _ => true
theorem tmpsOK_at {ops : Array Oper} (h : tmpsOK ops = true) {i j : Nat} {oi oj : Oper} (hi : ops[i]? = some oi) (hj : ops[j]? = some oj) (hij : i ≠ j) (h1 : anc ops i j = false) (h2 : anc ops j i = false) {d : Nat} (hd : oj.dst = some d) :
    d ∉ usesOf ops oi ∧ oi.dst ≠ some d := by
  unfold tmpsOK at h
  rw [List.all_eq_true] at h
  have hi' : i < ops.size := (Array.getElem?_eq_some_iff.1 hi).1
  have hj' : j < ops.size := (Array.getElem?_eq_some_iff.1 hj).1
  have h3 := h i (by simpa using hi')
  rw [List.all_eq_true] at h3
  have h4 := h3 j (by simpa using hj')
  simp only [h1, h2, hi, hj, hd, Bool.or_false, Bool.or_eq_true, beq_iff_eq, hij, false_or, Bool.and_eq_true, Bool.not_eq_true', bne_iff_ne, ne_eq] at h4
  refine ⟨fun hm => ?_, h4.2⟩
  have h5 := h4.1
  rw [List.contains_eq_mem] at h5
  simp [hm] at h5
end Go.Dm
/- The abstract machine, part L: regions whose order is open: soundness. -/
set_option linter.unusedSimpArgs false
set_option linter.unusedVariables false
namespace Go.Dm
open Go

def wrT (ops : Array Oper) (t : Nat) (j : Nat) : Bool := ((ops[j]?).bind (·.dst)) == some t
def wrH (pl : List PE) (L : Nat) (j : Nat) : Bool := ((pl[j]?).map (·.us) |>.getD []).any fun u => u.1 == L
theorem find_putA_ne {T : TEnv} {d : Option Tmp} {v : Value} {t : Nat} (h : d ≠ some t) : find (putA T d v) t = find T t := by
  cases d with
  | none => rfl
  | some d => simp only [putA, find]; rw [if_neg (fun e => h (by rw [e]))]
theorem find_putA_congr {T T' : TEnv} {d : Option Tmp} {v : Value} {t : Nat} (h : find T t = find T' t) : find (putA T d v) t = find (putA T' d v) t := by
  cases d with
  | none => exact h
  | some d => simp only [putA, find]; rw [h]
theorem TS_find_congr {ops : Array Oper} {pl : List PE} {t : Nat} : ∀ (S : List Nat) {T T' : TEnv}, find T t = find T' t → find (TS ops pl T S) t = find (TS ops pl T' S) t
  | [], _, _, h => h
  | a :: S, T, T', h => by
    show find (TS ops pl (putA T _ _) S) t = find (TS ops pl (putA T' _ _) S) t
    exact TS_find_congr S (find_putA_congr h)
theorem TS_filter {ops : Array Oper} {pl : List PE} {t : Nat} : ∀ (S : List Nat) (T : TEnv), find (TS ops pl T S) t = find (TS ops pl T (S.filter (wrT ops t))) t
  | [], _ => rfl
  | a :: S, T => by
    rw [List.filter_cons]
    split
    · exact TS_filter S _
    · rename_i hw
      show find (TS ops pl (putA T _ _) S) t = _
      rw [TS_find_congr S (find_putA_ne (T := T) (fun e => hw (by simp [wrT, e]))), TS_filter S T]
theorem applyU_congr {L : Nat} : ∀ (us : List (Nat × Blk)) {h h' : Heap}, h L = h' L → applyU h us L = applyU h' us L
  | [], _, _, h => h
  | u :: us, h, h', hh => by
    show applyU (upd h u.1 u.2) us L = applyU (upd h' u.1 u.2) us L
    exact applyU_congr us (by simp only [upd]; rw [hh])
theorem applyU_ne {L : Nat} : ∀ (us : List (Nat × Blk)) {h : Heap}, (∀ u ∈ us, u.1 ≠ L) → applyU h us L = h L
  | [], _, _ => rfl
  | u :: us, h, hh => by
    show applyU (upd h u.1 u.2) us L = h L
    rw [applyU_ne us (fun v hv => hh v (by simp [hv])), upd_ne _ _ (fun e => hh u (by simp) e.symm)]
theorem HS_congr' {pl : List PE} {L : Nat} : ∀ (S : List Nat) {h h' : Heap}, h L = h' L → HS pl h S L = HS pl h' S L
  | [], _, _, h => h
  | a :: S, h, h', hh => by
    show HS pl (applyU h _) S L = HS pl (applyU h' _) S L
    exact HS_congr' S (applyU_congr _ hh)
theorem HS_filter {pl : List PE} {L : Nat} : ∀ (S : List Nat) (h : Heap), HS pl h S L = HS pl h (S.filter (wrH pl L)) L
  | [], _ => rfl
  | a :: S, h => by
    rw [List.filter_cons]
    split
    · exact HS_filter S _
    · rename_i hw
      show HS pl (applyU h _) S L = _
      rw [HS_congr' S (applyU_ne (h := h) _ ?_), HS_filter S h]
      intro u hu e
      exact hw (by simp only [wrH, List.any_eq_true, beq_iff_eq]; exact ⟨u, hu, e⟩)

theorem appendA_label {P : Program} {h : Heap} {t : TypeId} {s x : Value} {n : Nat} {v : Value} {e : Option (Nat × Blk)} (hl : appendA P h t s x n = some (v, e)) (he : ∀ b, e ≠ some (n, b)) (n' : Nat) : appendA P h t s x n' = some (v, e) := by
  unfold appendA at hl ⊢
  split at hl
  · rename_i el A m c B k d hu
    split at hl
    · rename_i hsz
      rw [if_pos hsz]
      split at hl
      · rename_i hk; rw [if_pos hk]; exact hl
      · rename_i hk; rw [if_neg hk]
        split at hl
        · split at hl
          · rename_i hz
            rw [if_pos hz]
            split at hl
            · cases hl; exact absurd rfl (he _)
            · rename_i hx; rw [if_neg hx]; exact hl
          · cases hl
        · cases hl
    · cases hl
  · cases hl
theorem lopA_label {P : Program} {o : Oper} {T : TEnv} {h : Heap} {n : Nat} {v : Value} {e : Option (Nat × Blk)} (hl : lopA P o T h n = some (v, e)) (he : ∀ b, e ≠ some (n, b)) (n' : Nat) : lopA P o T h n' = some (v, e) := by
  unfold lopA at hl ⊢
  cases hop : o.op <;> rw [hop] at hl <;> (try simp only at hl ⊢) <;> try exact hl
  case alloc t =>
    split at hl
    · split at hl
      · cases hl; exact absurd rfl (he _)
      · cases hl
    · cases hl
  case box t x =>
    split at hl
    · split at hl
      · cases hl; exact absurd rfl (he _)
      · cases hl
    · cases hl
  case buildSlice t len ps =>
    simp only [Option.map_eq_some_iff] at hl
    obtain ⟨r, _, h2⟩ := hl
    cases h2; exact absurd rfl (he _)
  case slice t x lo hi mx => cases mx <;> exact hl
  case call c =>
    unfold callA at hl ⊢
    split at hl
    · split at hl
      · split at hl
        · split at hl
          · rename_i htt
            simp only [htt, if_true]
            split at hl
            · subst htt; exact appendA_label hl he n'
            · cases hl
          · cases hl
        · cases hl
      · exact hl
      · exact hl
    · cases hl

theorem appendS_label {P : Program} {h : Heap} {t t' : TypeId} {s x : Value} {n : Nat} {v : Value} {e : Option (Nat × Blk)} (hl : appendS P h t t' s x n = some (v, e)) (he : ∀ b, e ≠ some (n, b)) (n' : Nat) : appendS P h t t' s x n' = some (v, e) := by
  unfold appendS at hl ⊢
  split at hl
  · split at hl
    · rename_i hsz
      rw [if_pos hsz]
      split at hl
      · rename_i hk; rw [if_pos hk]; exact hl
      · rename_i hk; rw [if_neg hk]
        split at hl
        · split at hl
          · rename_i hz
            rw [if_pos hz]
            split at hl
            · cases hl; exact absurd rfl (he _)
            · rename_i hx; rw [if_neg hx]; exact hl
          · cases hl
        · cases hl
    · cases hl
  · cases hl
/-- An effect of the extension is at the new label, or hangs on no label. -/
theorem xop_label {P : Program} {o : Oper} {T : TEnv} {h : Heap} {n n' : Nat} : (∃ v b, xop P o T h n = some (v, some (n, b)) ∧ ∃ v' b', xop P o T h n' = some (v', some (n', b'))) ∨ xop P o T h n' = xop P o T h n := by
  unfold xop
  split
  · exact .inr rfl
  · exact .inr rfl
  · rename_i t l c hop
    split
    · rename_i lv cv _ _
      unfold makeX
      split
      · split
        · split
          · exact .inl ⟨_, _, rfl, _, _, rfl⟩
          · exact .inr rfl
        · exact .inr rfl
      · exact .inr rfl
    · exact .inr rfl
  · exact .inr rfl
  · exact .inr rfl
  · exact .inr rfl
  · split
    · unfold callX
      split
      · split
        · unfold appendS
          split
          · split
            · split
              · exact .inr rfl
              · split
                · split
                  · split
                    · exact .inl ⟨_, _, rfl, _, _, rfl⟩
                    · exact .inr rfl
                  · exact .inr rfl
                · exact .inr rfl
            · exact .inr rfl
          · exact .inr rfl
        · exact .inr rfl
      · exact .inr rfl
      · exact .inr rfl
      · exact .inr rfl
      · exact .inr rfl
      · exact .inr rfl
      · exact .inr rfl
    · exact .inr rfl
  · exact .inr rfl
theorem lop_label {P : Program} {o : Oper} {T : TEnv} {h : Heap} {n : Nat} {v : Value} {e : Option (Nat × Blk)} (hl : lop P o T h n = some (v, e)) (he : ∀ b, e ≠ some (n, b)) (n' : Nat) : lop P o T h n' = some (v, e) := by
  rcases lop_cases hl with hx | ⟨hx0, hx⟩
  · rcases xop_label (P := P) (o := o) (T := T) (h := h) (n := n) (n' := n') with ⟨v1, b1, h1, _⟩ | h1
    · rw [hx] at h1; cases h1; exact absurd rfl (he _)
    · exact lop_X (h1.trans hx)
  · rcases xop_label (P := P) (o := o) (T := T) (h := h) (n := n) (n' := n') with ⟨v1, b1, h1, _⟩ | h1
    · rw [hx0] at h1; cases h1
    · rw [lop_A (h1.trans hx0)]; exact lopA_label hx he n'

section
variable {P : Program} {ops : Array Oper} {N : Nat} {T0 : TEnv} {h0 : Heap} {n0 nEnd : Nat} {pl : List PE} {m0 : LMap} {w0 : World} {Q : Exit → TEnv → Heap → Nat → Prop}

structure Inv (ops : Array Oper) (N : Nat) (T0 : TEnv) (h0 : Heap) (n0 : Nat) (pl : List PE) (m0 : LMap) (w0 : World) (S : List Nat) (m : LMap) (a : Act) (w : World) : Prop where
  heap : HRel (HS pl h0 S) m w
  tmps : TRel m (TS ops pl T0 S) a
  defers : a.defers = []
  size : a.tmps.size = N
  step : Step h0 m0 w0 (HS pl h0 S) m w
  dom : ∀ L g p, m L g = some p → L < n0 ∨ ∃ i ∈ S, ∃ q, pl[i]? = some q ∧ q.lo ≤ L ∧ L < q.hi
  lab : ∀ L g p, m L g = some p → (∃ g' p', m0 L g' = some p') ∨ n0 ≤ L

theorem draw_sound (hb : backOK ops = true) (ht : tmpsOK ops = true) (hd : dstsOK ops N = true) (hp : Plan P ops T0 h0 n0 pl ops.size)
    (hap : ∀ (i j : Nat) (p q : PE), i < j → pl[i]? = some p → pl[j]? = some q → anc ops i j = false → apart p q)
    (hn : n0 ≤ nEnd) (hend : ∀ (i : Nat) (p : PE), pl[i]? = some p → p.hi ≤ nEnd)
    (hK : Q .normal (TS ops pl T0 (List.range ops.size)) (HS pl h0 (List.range ops.size)) nEnd) :
    ∀ {S rest : List Nat}, Lin ops S rest → Pre ops S → ∀ (m : LMap) (a : Act) (w : World), Inv ops N T0 h0 n0 pl m0 w0 S m a w → wpOps P ops (QR N n0 h0 m0 w0 Q) rest a w := by
  -- unordered operations are apart
  have hap2 : ∀ {i j : Nat} {p q : PE}, i ≠ j → pl[i]? = some p → pl[j]? = some q → anc ops i j = false → anc ops j i = false → apart p q ∨ apart q p := by
    intro i j p q hij hi hj h1 h2
    rcases Nat.lt_or_gt_of_ne hij with h | h
    · exact .inl (hap i j p q h hi hj h1)
    · exact .inr (hap j i q p h hj hi h2)
  have ordered_or : ∀ (i j : Nat), (anc ops i j = true ∨ anc ops j i = true) ∨ (anc ops i j = false ∧ anc ops j i = false) := by
    intro i j; cases anc ops i j <;> cases anc ops j i <;> simp
  have hget : ∀ {i : Nat}, i < ops.size → ∃ p, pl[i]? = some p := fun {i} hi => ⟨_, List.getElem?_eq_getElem (by rw [hp.len]; exact hi)⟩
  have hgeto : ∀ {i : Nat}, i < ops.size → ∃ o, ops[i]? = some o := fun {i} hi => ⟨_, Array.getElem?_eq_getElem hi⟩
  -- writers of one slot, of one label, are ordered
  have wT : ∀ t, ∀ j k, j < ops.size → k < ops.size → j ≠ k → wrT ops t j = true → wrT ops t k = true → anc ops j k = true ∨ anc ops k j = true := by
    intro t j k hj hk hjk h1 h2
    rcases ordered_or j k with h | ⟨h, h'⟩
    · exact h
    · obtain ⟨oj, hoj⟩ := hgeto hj
      obtain ⟨ok, hok⟩ := hgeto hk
      simp only [wrT, hoj, hok, Option.bind_some, beq_iff_eq] at h1 h2
      exact absurd h1 (tmpsOK_at ht hoj hok hjk h h' h2).2
  have wH : ∀ L, ∀ j k, j < ops.size → k < ops.size → j ≠ k → wrH pl L j = true → wrH pl L k = true → anc ops j k = true ∨ anc ops k j = true := by
    intro L j k hj hk hjk h1 h2
    rcases ordered_or j k with h | ⟨h, h'⟩
    · exact h
    · obtain ⟨p, hpj⟩ := hget hj
      obtain ⟨q, hqk⟩ := hget hk
      simp only [wrH, hpj, hqk, Option.map_some, Option.getD_some, List.any_eq_true, beq_iff_eq] at h1 h2
      obtain ⟨u, hu, rfl⟩ := h1
      obtain ⟨v, hv, hvu⟩ := h2
      rcases hap2 hjk hpj hqk h h' with hx | hx
      · exact absurd hvu.symm ((hx.2.2.1 u hu).2 v hv)
      · exact absurd hvu ((hx.2.2.1 v hv).2 u hu)
  intro S rest hlin
  induction hlin with
  | @done S hall =>
    intro hpre m a w hinv
    have hpr := pre_range hb (Nat.le_refl ops.size)
    have hmem : ∀ j, (j ∈ S ↔ j ∈ List.range ops.size) := fun j => by
      simp only [List.mem_range]; exact ⟨hpre.lt j, hall j⟩
    have hTf : ∀ t, find (TS ops pl T0 S) t = find (TS ops pl T0 (List.range ops.size)) t := fun t => by
      rw [TS_filter S, TS_filter (List.range ops.size), filter_eq hb hpre hpr (wT t) (fun j _ => hmem j)]
    have hHf : HS pl h0 S = HS pl h0 (List.range ops.size) := by
      funext L
      rw [HS_filter S, HS_filter (List.range ops.size), filter_eq hb hpre hpr (wH L) (fun j _ => hmem j)]
    refine ⟨_, _, nEnd, m, ⟨hHf ▸ hinv.heap, ⟨fun t v hv => hinv.tmps.tm t v (by rw [hTf]; exact hv), hinv.tmps.gl⟩, hinv.defers, hinv.size, ?_⟩, ⟨hHf ▸ hinv.step, hn, hinv.lab⟩, hK⟩
    intro L g q hq
    rcases hinv.dom L g q hq with h | ⟨i, _, p, hpi, _, hlt⟩
    · omega
    · have := hend i p hpi; omega
  | @step S i rest hi hni hready hlin ih =>
    intro hpre m a w hinv
    obtain ⟨o, ho⟩ := hgeto hi
    obtain ⟨p, hpi⟩ := hget hi
    have hpr := pre_range hb (Nat.le_of_lt hi)
    have hpre' := hpre.snoc hb hi hni hready
    have hanc := ready_anc hb hpre hi hready
    have hok := hp.ok i p o hpi ho
    have hdst : ∀ x, o.dst = some x → x < a.tmps.size := by
      intro x hx; rw [hinv.size]
      unfold dstsOK at hd; rw [List.all_eq_true] at hd
      have := hd o (by have := Array.mem_of_getElem? ho; simpa using this)
      rw [hx] at this; simpa using this
    -- an operation that is ordered with this one is done just if it stands ahead in the text
    have hord : ∀ j, j < ops.size → j ≠ i → (anc ops j i = true ∨ anc ops i j = true) → (j ∈ S ↔ j ∈ List.range i) := by
      intro j hj hji h
      simp only [List.mem_range]
      rcases h with h | h
      · exact ⟨fun _ => anc_lt hb h, fun _ => hanc j h⟩
      · constructor
        · intro hjS; exact absurd (hpre.closed j hjS i h) hni
        · intro hlt; have := anc_lt hb h; omega
    have hself : i ∉ List.range i := by simp
    -- the slots that it names read as they do in the text's order
    have hfind : ∀ t ∈ usesOf ops o, find (TS ops pl T0 S) t = find (TS ops pl T0 (List.range i)) t := by
      intro t htu
      rw [TS_filter S, TS_filter (List.range i), filter_eq hb hpre hpr (wT t)]
      intro j hj
      have hjlt : j < ops.size := by
        cases hoj : ops[j]? with
        | none => simp [wrT, hoj] at hj
        | some oj => exact (Array.getElem?_eq_some_iff.1 hoj).1
      by_cases hji : j = i
      · subst hji; exact ⟨fun h => absurd h hni, fun h => absurd h hself⟩
      · refine hord j hjlt hji ?_
        rcases ordered_or j i with h | ⟨h, h'⟩
        · exact h
        · obtain ⟨oj, hoj⟩ := hgeto hjlt
          simp only [wrT, hoj, Option.bind_some, beq_iff_eq] at hj
          exact absurd htu (tmpsOK_at ht ho hoj (Ne.symm hji) h' h hj).1
    have hlabel : ∀ L, (L ∈ p.reads ∨ p.all = true) → HS pl h0 S L = HS pl h0 (List.range i) L := by
      intro L hL
      rw [HS_filter S, HS_filter (List.range i), filter_eq hb hpre hpr (wH L)]
      intro j hj
      have hjlt : j < ops.size := by
        cases hpj : pl[j]? with
        | none => simp [wrH, hpj] at hj
        | some q => have := (List.getElem?_eq_some_iff.1 hpj).1; rw [hp.len] at this; exact this
      by_cases hji : j = i
      · subst hji; exact ⟨fun h => absurd h hni, fun h => absurd h hself⟩
      · refine hord j hjlt hji ?_
        rcases ordered_or j i with h | ⟨h, h'⟩
        · exact h
        · obtain ⟨q, hqj⟩ := hget hjlt
          simp only [wrH, hqj, Option.map_some, Option.getD_some, List.any_eq_true, beq_iff_eq] at hj
          obtain ⟨u, hu, rfl⟩ := hj
          exfalso
          rcases hap2 hji hqj hpi h h' with hx | hx
          · rcases hL with hL | hL
            · exact (hx.2.2.1 u hu).1 hL
            · rw [(hx.2.1 hL).1] at hu; cases hu
          · rcases hL with hL | hL
            · exact hx.2.2.2 u hu hL
            · rw [(hx.1 hL).1] at hu; cases hu
    have hev : ∀ x ∈ o.op.operands, ev (TS ops pl T0 S) x = ev (TS ops pl T0 (List.range i)) x := by
      intro x hx
      cases x with
      | tmp t =>
        exact hfind t (by
          simp only [usesOf, List.mem_append, List.mem_filterMap]
          left; exact ⟨.tmp t, by simpa using hx, rfl⟩)
      | _ => rfl
    have hwant : wantedA ops o (TS ops pl T0 S) = wantedA ops o (TS ops pl T0 (List.range i)) := by
      unfold wantedA
      split
      · rfl
      · rename_i j want hg
        split
        · rename_i d hdj
          rw [hfind d (by simp only [usesOf, List.mem_append]; right; rw [hg]; simp [hdj])]
        · rfl
    -- what its own labels are good for
    have hfresh : p.lo < p.hi → ∀ g, m p.lo g = none := by
      intro hlh g
      cases hh : m p.lo g with
      | none => rfl
      | some q =>
        exfalso
        rcases hinv.dom _ _ _ hh with h | ⟨j, hjS, q', hq', h1, h2⟩
        · have := (hp.mono i p hpi).1; omega
        · by_cases hji : j = i
          · subst hji; exact hni hjS
          · rcases Nat.lt_or_gt_of_ne hji with h | h
            · have := hp.chain j i q' p h hq' hpi; omega
            · have := hp.chain i j p q' h hpi hq'; omega
    have hput : TS ops pl T0 (S ++ [i]) = putA (TS ops pl T0 S) o.dst p.val := by
      rw [TS_snoc, ho, hpi]; rfl
    have hheap : HS pl h0 (S ++ [i]) = applyU (HS pl h0 S) p.us := by rw [HS_snoc, hpi]; rfl
    have hdomold : ∀ {m' : LMap}, (∀ L g q, m' L g = some q → (∃ g' q', m L g' = some q') ∨ (p.lo ≤ L ∧ L < p.hi)) → ∀ L g q, m' L g = some q → L < n0 ∨ ∃ j ∈ S ++ [i], ∃ q', pl[j]? = some q' ∧ q'.lo ≤ L ∧ L < q'.hi := by
      intro m' hm' L g q hq
      rcases hm' L g q hq with ⟨g', q', h⟩ | h
      · rcases hinv.dom L g' q' h with h | ⟨j, hj, x⟩
        · exact .inl h
        · exact .inr ⟨j, List.mem_append.2 (.inl hj), x⟩
      · exact .inr ⟨i, by simp, p, hpi, h⟩
    have hlabold : ∀ {m' : LMap}, (∀ L g q, m' L g = some q → (∃ g' q', m L g' = some q') ∨ (p.lo ≤ L ∧ L < p.hi)) → ∀ L g q, m' L g = some q → (∃ g' p', m0 L g' = some p') ∨ n0 ≤ L := by
      intro m' hm' L g q hq
      rcases hm' L g q hq with ⟨g', q', h⟩ | h
      · exact hinv.lab L g' q' h
      · have := (hp.mono i p hpi).1; exact .inr (by omega)
    -- go on
    have go : ∀ (m' : LMap) (w' : World) (v' : Value), VR3 m' p.val v' → HRel (applyU (HS pl h0 S) p.us) m' w' → Step (HS pl h0 S) m w (applyU (HS pl h0 S) p.us) m' w' →
        (∀ L g q, m' L g = some q → (∃ g' q', m L g' = some q') ∨ (p.lo ≤ L ∧ L < p.hi)) → wpOps P ops (QR N n0 h0 m0 w0 Q) rest (a.put o.dst v') w' := by
      intro m' w' v' hv hH hS hdm
      refine ih hpre' m' _ w' ⟨by rw [hheap]; exact hH, ?_, by rw [Act.put_defers]; exact hinv.defers, by rw [Act.put_size]; exact hinv.size, by rw [hheap]; exact hinv.step.trans hS, hdomold hdm, hlabold hdm⟩
      rw [hput]
      exact putA_rel (hinv.tmps.mono hS.le) hv hdst
    have quietstep : p.us = [] → applyU (HS pl h0 S) p.us = HS pl h0 S := fun h => by rw [h]; rfl
    unfold wpOps
    rw [ho]
    simp only
    rcases hok with ⟨hw, hv, hu, hhi, hall, _⟩ | ⟨hw, hc, e, hlop, hu, hhi, hrd, hall⟩ | ⟨hw, c, g, vs, hc, hcal, hu, hhi, hall, hs⟩ | ⟨hw, c, g, vs, hc, hcal, hall, hle, hus, hs⟩ | ⟨hw, c, g, vs, hc, hcal, hall, hhi, hs⟩
    · rw [← hwant] at hw
      rw [if_neg (by rw [wanted_rel hw hinv.tmps]; simp)]
      have hq := quietstep hu
      refine go m w undef (by rw [hv]; exact VR3.refl rfl) (by rw [hq]; exact hinv.heap) (by rw [hq]; exact Step.refl _ m w) (fun _ _ _ h => .inl ⟨_, _, h⟩)
    · rw [← hwant] at hw
      rw [if_pos (by rw [wanted_rel hw hinv.tmps])]
      left
      have hlop' : lop P o (TS ops pl T0 S) (HS pl h0 S) p.lo = some (p.val, e) := by
        rw [lop_congr hev (h' := HS pl h0 (List.range i)) (fun L hL => ?_)]
        · exact hlop
        · refine hlabel L (.inl ?_)
          rw [hrd]
          have : lreads o (TS ops pl T0 S) = lreads o (TS ops pl T0 (List.range i)) := by
            unfold lreads
            cases hop : o.op <;> rw [hop] at hev <;> simp only
            case load t x => rw [hev x (by simp [Op.operands])]
            case store t x y => rw [hev x (by simp [Op.operands])]
            case convert s d x => rw [hev x (by simp [Op.operands])]
            case call c =>
              split
              · rename_i hcb
                have : ∀ (l : List Operand), (∀ x ∈ l, ev (TS ops pl T0 S) x = ev (TS ops pl T0 (List.range i)) x) → (l.flatMap fun x => labOf (ev (TS ops pl T0 S) x)) = l.flatMap fun x => labOf (ev (TS ops pl T0 (List.range i)) x) := by
                  intro l
                  induction l with
                  | nil => intro _; rfl
                  | cons y l ihl => intro hh; rw [List.flatMap_cons, List.flatMap_cons, hh y (by simp), ihl fun x hx => hh x (by simp [hx])]
                rw [this _ fun x hx => hev x (mem_operands_call hx)]
              · rfl
          rw [← this]; exact hL
      -- a label of its own, or none
      have hfr : (∃ b, e = some (p.lo, b)) → p.lo < p.hi := by
        rintro ⟨b, rfl⟩; rw [hhi]; simp [allocs]
      by_cases hmk : ∃ b, e = some (p.lo, b)
      · obtain ⟨w', m', v', nx, h1, h2, h3, h4⟩ := lop_sound hlop' hinv.heap hinv.tmps (hfresh (hfr hmk))
        have hgo := go m' w' v' h3 (by rw [hu, ← eff_applyU]; exact h4.rel) (by rw [hu, ← eff_applyU]; exact h4.step) (by
          intro L g q hq
          rcases h4.dom L g q hq with h | ⟨b, hb'⟩
          · exact .inl ⟨_, _, h⟩
          · obtain ⟨b2, hb2⟩ := hmk
            rw [hb2] at hb'; cases hb'; exact .inr ⟨Nat.le_refl _, hfr ⟨_, hb2⟩⟩)
        unfold Oper.wp; rw [h1]
        rcases h2 with rfl | ⟨rfl, rfl⟩ <;> exact hgo
      · -- the label does not matter: take one that is free
        have hlop2 := lop_label hlop' (fun b hb' => hmk ⟨b, hb'⟩) nEnd
        have hfree : ∀ g, m nEnd g = none := by
          intro g
          cases hh : m nEnd g with
          | none => rfl
          | some q =>
            exfalso
            rcases hinv.dom _ _ _ hh with h | ⟨j, _, q', hq', _, hlt⟩
            · omega
            · have := hend j q' hq'; omega
        obtain ⟨w', m', v', nx, h1, h2, h3, h4⟩ := lop_sound hlop2 hinv.heap hinv.tmps hfree
        have hgo := go m' w' v' h3 (by rw [hu, ← eff_applyU]; exact h4.rel) (by rw [hu, ← eff_applyU]; exact h4.step) (by
          intro L g q hq
          rcases h4.dom L g q hq with h | ⟨b, hb'⟩
          · exact .inl ⟨_, _, h⟩
          · subst hb'
            rcases lop_eff hlop' with h5 | ⟨b0, h5⟩
            · subst h5; exact absurd ⟨b, rfl⟩ hmk
            · obtain ⟨k, o', r, _, _, h6, _⟩ := hinv.heap.blk L b0 h5
              exact .inl ⟨_, _, h6⟩)
        unfold Oper.wp; rw [h1]
        rcases h2 with rfl | ⟨rfl, rfl⟩ <;> exact hgo
    · rw [← hwant] at hw
      rw [if_pos (by rw [wanted_rel hw hinv.tmps])]
      left
      have hcal' : calleeA (TS ops pl T0 S) c = some (g, vs) := by
        rw [calleeA_congr (T' := TS ops pl T0 (List.range i))]
        · exact hcal
        · intro x hx
          have hop : o.op = .call c := by
            unfold callOf at hc; split at hc
            · split at hc
              · cases hc; assumption
              · cases hc
            · cases hc
          exact hev x (by rw [hop]; exact hx)
      have hspec := hs (HS pl h0 S) nEnd (fun L hL => hlabel L (.inl hL))
      obtain ⟨args', hex, hargs⟩ := call_run (P := P) hc hcal' hinv.tmps w
      unfold Oper.wp
      rw [hex]
      refine upon_call (hspec.run m w args' hargs hinv.heap ?_) ?_
      · intro L g q hq
        rcases hinv.dom L g q hq with h | ⟨j, _, q', hq', _, hlt⟩
        · omega
        · have := hend j q' hq'; omega
      · rintro e w' ⟨r, r', h', n', m', rfl, h2, h3, h4, h5, rfl, rfl, rfl⟩
        refine ⟨r', rfl, ?_⟩
        have hq := quietstep hu
        refine go m' w' r' h2 (by rw [hq]; exact h3) (by rw [hq]; exact h5.step) ?_
        intro L g q hq'
        rcases h5.lab L g q hq' with h | h
        · exact .inl h
        · have := h4 L g q hq'; omega
    · rw [← hwant] at hw
      rw [if_pos (by rw [wanted_rel hw hinv.tmps])]
      left
      have hop : o.op = .call c := by
        unfold callOf at hc; split at hc
        · split at hc
          · cases hc; assumption
          · cases hc
        · cases hc
      have hcal' : calleeA (TS ops pl T0 S) c = some (g, vs) := by
        rw [calleeA_congr (T' := TS ops pl T0 (List.range i)) (fun x hx => hev x (by rw [hop]; exact hx))]
        exact hcal
      have hHeq : HS pl h0 S = HS pl h0 (List.range i) := funext fun L => hlabel L (.inr hall)
      rw [← hHeq] at hs
      obtain ⟨args', hex, hargs⟩ := call_run (P := P) hc hcal' hinv.tmps w
      unfold Oper.wp
      rw [hex]
      refine upon_call (hs.run m w args' hargs hinv.heap ?_) ?_
      · intro L g q hq
        rcases hinv.dom L g q hq with h | ⟨j, hjS, q', hq', h1, h2⟩
        · have := (hp.mono i p hpi).1; omega
        · have hji : j ≠ i := fun e => hni (e ▸ hjS)
          rcases ordered_or j i with (h | h) | ⟨h, h'⟩
          · have := hp.chain j i q' p (anc_lt hb h) hq' hpi; omega
          · exact absurd (hpre.closed j hjS i h) hni
          · exfalso
            rcases hap2 hji hq' hpi h h' with hx | hx
            · have := (hx.2.1 hall).2.1; omega
            · have := (hx.1 hall).2.1; omega
      · rintro e w' ⟨r, r', h', n', m', rfl, h2, h3, h4, h5, rfl, rfl, rfl⟩
        refine ⟨r', rfl, ?_⟩
        refine go m' w' r' h2 h3 h5.step ?_
        intro L g q hq'
        rcases h5.lab L g q hq' with h | h
        · exact .inl h
        · exact .inr ⟨h, h4 L g q hq'⟩
    · rw [← hwant] at hw
      rw [if_pos (by rw [wanted_rel hw hinv.tmps])]
      left
      have hop : o.op = .call c := by
        unfold callOf at hc; split at hc
        · split at hc
          · cases hc; assumption
          · cases hc
        · cases hc
      have hcal' : calleeA (TS ops pl T0 S) c = some (g, vs) := by
        rw [calleeA_congr (T' := TS ops pl T0 (List.range i)) (fun x hx => hev x (by rw [hop]; exact hx))]
        exact hcal
      have hspec := hs (HS pl h0 S) (fun L hL => hlabel L (.inl hL))
      have hlh : p.lo < p.hi := by omega
      obtain ⟨args', hex, hargs⟩ := call_run (P := P) hc hcal' hinv.tmps w
      unfold Oper.wp
      rw [hex]
      refine upon_call (hspec.run m w args' nEnd hargs hinv.heap ?_ (hfresh hlh) ?_) ?_
      · intro L g q hq
        rcases hinv.dom L g q hq with h | ⟨j, _, q', hq', _, hlt⟩
        · omega
        · have := hend j q' hq'; omega
      · have := hend i p hpi; omega
      · rintro e w' ⟨r', m', rfl, h2, h3, h4, h5⟩
        refine ⟨r', rfl, ?_⟩
        refine go m' w' r' h2 h3 h4 ?_
        intro L g q hq'
        rcases h5 L g q hq' with h | rfl
        · exact .inl h
        · exact .inr ⟨Nat.le_refl _, hlh⟩
end
end Go.Dm
/- The abstract machine, part M: the rules as they are used: open regions, functions, contracts made smaller. -/
set_option linter.unusedSimpArgs false
set_option linter.unusedVariables false
namespace Go.Dm
open Go

/-! ### Which pairs must be looked at -/
def mayWrite (o : Oper) : Bool :=
  match o.op with
  | .store .. | .alloc _ | .box .. | .buildSlice .. | .makeSlice .. => true
  | .call c => (match c.callee with | .builtin b => readB b | _ => true)
  | _ => false
def mayTouch (o : Oper) : Bool := mayWrite o || match o.op with | .load .. | .convert .. => true | _ => false
def unord (ops : Array Oper) : List (Nat × Nat) :=
  (List.range ops.size).flatMap fun j => (List.range j).filterMap fun i =>
    match ops[i]?, ops[j]? with
    | some oi, some oj => if !(anc ops i j) && ((mayWrite oi && mayTouch oj) || (mayTouch oi && mayWrite oj)) then some (i, j) else none
    | _, _ => none
def Pairs (acc : List PE) : List (Nat × Nat) → Prop
  | [] => True
  | (i, j) :: r => (match acc[i]?, acc[j]? with | some p, some q => apart p q | _, _ => True) ∧ Pairs acc r
theorem pairs_mem {acc : List PE} : ∀ {l : List (Nat × Nat)}, Pairs acc l → ∀ {i j : Nat} {p q : PE}, (i, j) ∈ l → acc[i]? = some p → acc[j]? = some q → apart p q
  | [], _, _, _, _, _, h, _, _ => by simp at h
  | (a, b) :: l, hp, i, j, p, q, h, hi, hj => by
    rcases List.mem_cons.1 h with h | h
    · cases h; have := hp.1; rw [hi, hj] at this; exact this
    · exact pairs_mem hp.2 h hi hj

theorem lopA_quiet {P : Program} {o : Oper} {T : TEnv} {h : Heap} {n : Nat} {v : Value} {e : Option (Nat × Blk)} (hl : lopA P o T h n = some (v, e)) (hw : mayWrite o = false) : e = none := by
  have fin : ∀ {r : Option Value}, r.map (·, (none : Option (Nat × Blk))) = some (v, e) → e = none := by
    intro r hr; cases r with
    | none => cases hr
    | some x => simp at hr; exact hr.2.symm
  unfold mayWrite at hw
  unfold lopA at hl
  cases hop : o.op <;> rw [hop] at hl hw <;> (try simp only at hl) <;> (try exact fin hl) <;> (try (simp at hw; done))
  case load t x =>
    split at hl
    · exact fin hl
    · cases hl
  case field t x f =>
    split at hl
    · exact fin hl
    · cases hl
  case extract x i =>
    split at hl
    · exact fin hl
    · cases hl
  case slice t x lo hi mx =>
    cases mx with
    | some _ => exact fin hl
    | none =>
      simp only at hl
      split at hl
      · exact fin hl
      · cases hl
  case call c =>
    unfold callA at hl
    split at hl
    · rename_i b hb
      split at hl
      · simp [hb, readB] at hw
      · split at hl
        · split at hl
          · cases hl; rfl
          · exact fin hl
        · cases hl
      · exact fin hl
    · cases hl
  case binOp op t x y yt =>
    split at hl
    · cases hl; rfl
    · exact fin hl
theorem xop_quiet {P : Program} {o : Oper} {T : TEnv} {h : Heap} {n : Nat} {v : Value} {e : Option (Nat × Blk)} (hl : xop P o T h n = some (v, e)) (hw : mayWrite o = false) : e = none := by
  have fin : ∀ {r : Option Value}, r.map (·, (none : Option (Nat × Blk))) = some (v, e) → e = none := by
    intro r hr; cases r with
    | none => cases hr
    | some x => simp at hr; exact hr.2.symm
  unfold mayWrite at hw
  unfold xop at hl
  split at hl
  · split at hl
    · exact fin hl
    · cases hl
  · split at hl
    · exact fin hl
    · cases hl
  · rename_i hop; rw [hop] at hw; simp at hw
  · split at hl
    · exact fin hl
    · cases hl
  · split at hl
    · exact fin hl
    · cases hl
  · split at hl
    · cases hl
    · split at hl
      · cases hl; rfl
      · cases hl
    · cases hl
  · rename_i c hop
    rw [hop] at hw
    split at hl
    · rename_i b hb
      simp only [hb] at hw
      unfold callX at hl
      split at hl
      · simp [readB] at hw
      · simp [readB] at hw
      · split at hl
        · exact fin hl
        · cases hl
      · simp [readB] at hw
      · split at hl
        · exact fin hl
        · cases hl
      · split at hl
        · exact fin hl
        · cases hl
      · cases hl
    · cases hl
  · cases hl
theorem lop_quiet {P : Program} {o : Oper} {T : TEnv} {h : Heap} {n : Nat} {v : Value} {e : Option (Nat × Blk)} (hl : lop P o T h n = some (v, e)) (hw : mayWrite o = false) : e = none := by
  rcases lop_cases hl with hx | ⟨_, hx⟩
  · exact xop_quiet hx hw
  · exact lopA_quiet hx hw
theorem ok_quiet {P : Program} {ops : Array Oper} {o : Oper} {T : TEnv} {h : Heap} {p : PE} (hok : OkAt P ops o T h p) (hw : mayWrite o = false) : p.us = [] ∧ p.lo = p.hi ∧ p.all = false := by
  have hcall : ∀ c, callOf o = some c → False := by
    intro c hc
    unfold callOf at hc
    split at hc
    · rename_i c' hop
      split at hc
      · rename_i f hf; simp [mayWrite, hop, hf] at hw
      · cases hc
    · cases hc
  rcases hok with ⟨_, _, h1, h2, h3, _⟩ | ⟨_, _, e, hl, h1, h2, _, h3⟩ | ⟨_, c, g, vs, hc, _⟩ | ⟨_, c, g, vs, hc, _⟩ | ⟨_, c, g, vs, hc, _⟩
  · exact ⟨h1, h2.symm, h3⟩
  · have := lop_quiet hl hw; subst this; exact ⟨h1, by rw [h2]; rfl, h3⟩
  · exact (hcall c hc).elim
  · exact (hcall c hc).elim
  · exact (hcall c hc).elim
theorem ok_untouched {P : Program} {ops : Array Oper} {o : Oper} {T : TEnv} {h : Heap} {p : PE} (hok : OkAt P ops o T h p) (hw : mayTouch o = false) : p.us = [] ∧ p.lo = p.hi ∧ p.all = false ∧ p.reads = [] := by
  have hw1 : mayWrite o = false := by unfold mayTouch at hw; simp only [Bool.or_eq_false_iff] at hw; exact hw.1
  have hw2 : (match o.op with | .load .. | .convert .. => true | _ => false) = false := by unfold mayTouch at hw; simp only [Bool.or_eq_false_iff] at hw; exact hw.2
  obtain ⟨x, y, z⟩ := ok_quiet hok hw1
  refine ⟨x, y, z, ?_⟩
  have hcall : ∀ c, callOf o = some c → False := by
    intro c hc
    unfold callOf at hc
    split at hc
    · rename_i c' hop
      split at hc
      · rename_i f hf; simp [mayWrite, hop, hf] at hw1
      · cases hc
    · cases hc
  rcases hok with ⟨_, _, _, _, _, h1⟩ | ⟨_, _, e, hl, _, _, h1, _⟩ | ⟨_, c, g, vs, hc, _⟩ | ⟨_, c, g, vs, hc, _⟩ | ⟨_, c, g, vs, hc, _⟩
  · exact h1
  · rw [h1]
    unfold lreads
    cases hop : o.op <;> rw [hop] at hw2 <;> simp only <;> (try (simp at hw2; done))
    case store t x y => simp [mayWrite, hop] at hw1
    case call c =>
      split
      · rename_i b hb; simp [mayWrite, hop, hb] at hw1; simp [hw1]
      · rfl
  · exact (hcall c hc).elim
  · exact (hcall c hc).elim
  · exact (hcall c hc).elim

section
variable {P : Program} {N : Nat} {T : TEnv} {h : Heap} {n : Nat} {Q : Exit → TEnv → Heap → Nat → Prop}
/-- A region whose order is open. -/
theorem Sat.draw {id : Nat} {ops : Array Oper} (us : List (Nat × Nat)) (hm : P.follows .mixedOrders = true) (hb : backOK ops = true) (ht : tmpsOK ops = true) (hd : dstsOK ops N = true) (hus : unord ops = us)
    (hrun : RunD P ops ops.toList T h n [] fun T' h' n' acc => Pairs acc us ∧ Q .normal T' h' n') : Sat P N (.region id ops true) T h n Q := by
  intro m a w hr
  obtain ⟨pl, n', hplan, hn, hend, hpairs, hK⟩ := plan_of_run (T0 := T) (h0 := h) (n0 := n) ops.toList T h n [] (by intro i; simp) ⟨rfl, by simp, by simp, by simp⟩ rfl rfl (Nat.le_refl n) (by simp) hrun
  simp only [List.length_nil, Nat.zero_add, Array.length_toList] at hplan hK
  refine wp_region_draw fun t => ?_
  rw [hm]
  have hsch : Region.schedule true ops t = Region.linearise .any ops t := by simp [Region.schedule]
  rw [hsch]
  refine draw_sound (m0 := m) (w0 := w) hb ht hd hplan ?_ hn hend hK (lin_linearise hb t) (Pre.nil ops) m a _ ⟨drew_rel hr.heap, hr.tmps, hr.defers, hr.size, drew_step h m w, fun L g p hp => .inl (hr.dom L g p hp), fun L g p hp => .inl ⟨_, _, hp⟩⟩
  intro i j p q hij hi hj hanc
  have hilt : i < ops.size := by have := (List.getElem?_eq_some_iff.1 hi).1; rw [hplan.len] at this; exact this
  have hjlt : j < ops.size := by have := (List.getElem?_eq_some_iff.1 hj).1; rw [hplan.len] at this; exact this
  have oi : ops[i]? = some ops[i] := Array.getElem?_eq_getElem hilt
  have oj : ops[j]? = some ops[j] := Array.getElem?_eq_getElem hjlt
  have hoki := hplan.ok i p _ hi oi
  have hokj := hplan.ok j q _ hj oj
  by_cases hmem : (i, j) ∈ us
  · exact pairs_mem hpairs hmem hi hj
  · have hno : ((mayWrite ops[i] && mayTouch ops[j]) || (mayTouch ops[i] && mayWrite ops[j])) = false := by
      cases hx : ((mayWrite ops[i] && mayTouch ops[j]) || (mayTouch ops[i] && mayWrite ops[j])) with
      | false => rfl
      | true =>
        exfalso; apply hmem; rw [← hus]
        simp only [unord, List.mem_flatMap, List.mem_filterMap, List.mem_range]
        exact ⟨j, hjlt, i, hij, by rw [oi, oj]; simp only [hanc, hx, Bool.not_false, Bool.true_and, if_true]⟩
    simp only [Bool.or_eq_false_iff, Bool.and_eq_false_iff] at hno
    cases hwi : mayWrite ops[i] with
    | true =>
      have htj : mayTouch ops[j] = false := by
        rcases hno.1 with h | h
        · rw [hwi] at h; cases h
        · exact h
      obtain ⟨a1, a2, a3, a4⟩ := ok_untouched hokj htj
      refine ⟨fun _ => ⟨a1, a2, a3⟩, (fun h => by rw [a3] at h; cases h), fun u _ => ⟨by rw [a4]; simp, (fun v hv => by rw [a1] at hv; cases hv)⟩, (fun u hu => by rw [a1] at hu; cases hu)⟩
    | false =>
      obtain ⟨b1, b2, b3⟩ := ok_quiet hoki hwi
      cases hwj : mayWrite ops[j] with
      | true =>
        have hti : mayTouch ops[i] = false := by
          rcases hno.2 with h | h
          · exact h
          · rw [hwj] at h; cases h
        obtain ⟨a1, a2, a3, a4⟩ := ok_untouched hoki hti
        refine ⟨(fun h => by rw [a3] at h; cases h), fun _ => ⟨a1, a2, a3⟩, (fun u hu => by rw [a1] at hu; cases hu), fun u _ => by rw [a4]; simp⟩
      | false =>
        obtain ⟨c1, c2, c3⟩ := ok_quiet hokj hwj
        exact ⟨(fun h => by rw [b3] at h; cases h), (fun h => by rw [c3] at h; cases h), (fun u hu => by rw [b1] at hu; cases hu), (fun u hu => by rw [c1] at hu; cases hu)⟩
end

/-! ### A function -/
def argEnv : Nat → List Value → TEnv
  | _, [] => []
  | i, v :: vs => (i, v) :: argEnv (i + 1) vs
theorem find_argEnv : ∀ (vs : List Value) (i t : Nat) (v : Value), find (argEnv i vs) t = some v → i ≤ t ∧ vs[t - i]? = some v
  | [], i, t, v, h => by simp [argEnv, find] at h
  | u :: vs, i, t, v, h => by
    simp only [argEnv, find] at h
    split at h
    · rename_i e; subst e; cases h; simp
    · obtain ⟨h1, h2⟩ := find_argEnv vs (i + 1) t v h
      refine ⟨by omega, ?_⟩
      rw [show t - i = (t - (i + 1)) + 1 by omega]
      simpa using h2
def resultA (P : Program) (T : TEnv) (h : Heap) : ResultVar → Option Value
  | .tmp t => find T t
  | .cell a t => match find T a with | some (.pointer (some ad)) => loadA P h t ad | _ => none
def resultsL (P : Program) (T : TEnv) (h : Heap) : List ResultVar → Option (List Value)
  | [] => some []
  | r :: rs => match resultA P T h r, resultsL P T h rs with
    | some v, some vs => if notTuple v then some (v :: vs) else none
    | _, _ => none
def resultsA (P : Program) (rs : List ResultVar) (T : TEnv) (h : Heap) : Option Value :=
  match resultsL P T h rs with
  | some [v] => some v
  | some vs => some (.tuple vs.toArray)
  | none => none
theorem results_sound {P : Program} {fn : Func} {T : TEnv} {h : Heap} {r : Value} (hr : resultsA P fn.results.toList T h = some r) {m : LMap} {a : Act} {w : World} (H : HRel h m w) (hT : TRel m T a) :
    ∃ r', (results fn a.tmps).run P w = .ok r' w ∧ VR3 m r r' := by
  have one : ∀ (rv : ResultVar) (v : Value), resultA P T h rv = some v → ∃ v', (match rv with | .tmp t => pure (a.tmps.getD t undef) | .cell b t => do loadVar t (← asAddr (a.tmps.getD b undef)) : Sem Value).run P w = .ok v' w ∧ VR3 m v v' := by
    intro rv v hv
    cases rv with
    | tmp t => exact ⟨_, rfl, (hT.tm t v hv).2⟩
    | cell b t =>
      simp only [resultA] at hv
      split at hv
      · rename_i ad hf
        obtain ⟨k, o, r, hm, hp⟩ := ptr_inv (hT.tm b _ hf).2
        obtain ⟨v', h1, h2⟩ := load_sound H hv (hT.tm b _ hf).2
        refine ⟨v', ?_, h2⟩
        show (do loadVar t (← asAddr (a.tmps.getD b undef)) : Sem Value).run P w = .ok v' w
        rw [hp] at h1 ⊢
        simp only [asAddr, Sem.run_bind, Sem.run_pure, Result.andThen_ok]
        simpa [Instr.loadAt, Instr.sureAddr] using h1
      · cases hv
  have many : ∀ (l : List ResultVar) (vs : List Value), resultsL P T h l = some vs → ∃ vs', (l.mapM fun | .tmp t => pure (a.tmps.getD t undef) | .cell b t => do loadVar t (← asAddr (a.tmps.getD b undef)) : Sem (List Value)).run P w = .ok vs' w ∧ All2 (VR2 m) vs vs' := by
    intro l
    induction l with
    | nil => intro vs hv; simp [resultsL] at hv; subst hv; exact ⟨[], by simp, .nil⟩
    | cons rv l ih =>
      intro vs hv
      simp only [resultsL] at hv
      split at hv
      · rename_i v vs' h1 h2
        split at hv
        · rename_i hn; cases hv
          obtain ⟨v', x1, x2⟩ := one rv v h1
          obtain ⟨vs2, y1, y2⟩ := ih vs' h2
          refine ⟨v' :: vs2, ?_, .cons (x2.vr2 hn) y2⟩
          simp only [List.mapM_cons, Sem.run_bind, x1, Result.andThen_ok, y1, Sem.run_pure]
        · cases hv
      · cases hv
  unfold resultsA at hr
  have hmap : ∀ vs', (fn.results.toList.mapM fun | .tmp t => pure (a.tmps.getD t undef) | .cell b t => do loadVar t (← asAddr (a.tmps.getD b undef)) : Sem (List Value)).run P w = .ok vs' w →
      (results fn a.tmps).run P w = .ok (if h : vs'.toArray.size = 1 then vs'.toArray[0] else .tuple vs'.toArray) w := by
    intro vs' hv
    unfold results
    cases hrs : fn.results with | mk l =>
    rw [hrs] at hv
    rw [List.mapM_toArray, Sem.run_bind, Sem.run_map]
    erw [hv]
    rfl
  split at hr
  · rename_i v hv
    cases hr
    obtain ⟨vs', h1, h2⟩ := many _ _ hv
    cases h2 with | @cons _ v' _ bs h3 h4 =>
    cases h4
    exact ⟨v', by rw [hmap _ h1]; simp, .of2 h3⟩
  · rename_i vs hne hv
    cases hr
    obtain ⟨vs', h1, h2⟩ := many _ _ hv
    refine ⟨.tuple vs'.toArray, ?_, .tuple (by simpa using h2)⟩
    rw [hmap _ h1]
    have hl := h2.length
    have : ¬ vs'.toArray.size = 1 := by
      intro hs
      simp only [List.size_toArray] at hs
      obtain ⟨x, hx⟩ : ∃ x, vs = [x] := by
        match vs, hl with
        | [x], _ => exact ⟨x, rfl⟩
        | [], hl => simp only [List.length_nil] at hl; omega
        | _ :: _ :: _, hl => simp only [List.length_cons] at hl; omega
      exact hne x hx
    rw [dif_neg this]
  · cases hr

theorem Spec.of_body {P : Program} {g : FuncId} {fn : Func} {c : Code} (hf : P.funcs[g]? = some fn) (hb : fn.body = some c) (hnm : (fn.name == "runtime.NumGoroutine") = false) {args : List Value} (hlen : args.length ≤ fn.ntmps) {h : Heap} {n : Nat} {Q : Value → Heap → Nat → Prop}
    (hsat : Sat P fn.ntmps c (argEnv 0 args) h n fun x T' h' n' => (x = .normal ∨ x = .ret) ∧ ∃ r, resultsA P fn.results.toList T' h' = some r ∧ Q r h' n') : Spec P g args h n Q := by
  refine ⟨?_⟩
  intro m w args' hargs H hdom
  refine .inl ⟨⟨fn, hf, hnm, by rw [hb]; rfl⟩, ?_⟩
  refine calls_of_wp hf hb ?_
  have hal := hargs.length
  refine Code.wp_mono ?_ (hsat m { tmps := args'.toArray ++ Array.replicate (fn.ntmps - args'.toArray.size) undef, defers := [] } w ⟨H, ⟨?_, H.gl⟩, rfl, ?_, hdom⟩)
  · intro e a1 w1 ⟨T1, h1, n1, m1, x1, x2, x3, r, x4, x5⟩
    obtain ⟨r', y1, y2⟩ := results_sound x4 x1.heap x1.tmps
    have hfin : a1.defers = [] ∧ ∃ v, (results fn a1.tmps).run P w1 = .ok v w1 ∧ ∃ r r' h' n' m', Ending.returned v = .returned r' ∧ VR3 m' r r' ∧ HRel h' m' w1 ∧ (∀ L g p, m' L g = some p → L < n') ∧ Mv h m w n h' m' w1 n' ∧ Q r h' n' :=
      ⟨x1.defers, r', y1, r, r', h1, n1, m1, rfl, y2, x1.heap, x1.dom, x2, x5⟩
    rcases x3 with rfl | rfl
    · exact hfin
    · exact hfin
  · intro t v hv
    obtain ⟨_, h2⟩ := find_argEnv args 0 t v hv
    simp only [Nat.sub_zero] at h2
    obtain ⟨v', h3, h4⟩ := hargs.get h2
    have hlt : t < args'.length := (List.getElem?_eq_some_iff.1 h3).1
    refine ⟨by
      show t < (args'.toArray ++ Array.replicate (fn.ntmps - args'.toArray.size) undef).size
      simp only [Array.size_append, List.size_toArray, Array.size_replicate]; omega, ?_⟩
    simp only [Array.getD_eq_getD_getElem?]
    rw [Array.getElem?_append_left (by simpa using hlt)]
    simp only [List.getElem?_toArray, h3, Option.getD_some]
    exact h4
  · show (args'.toArray ++ Array.replicate (fn.ntmps - args'.toArray.size) undef).size = fn.ntmps
    simp only [Array.size_append, List.size_toArray, Array.size_replicate]; omega

/-! ### Contracts made smaller -/
/-- What a function made for itself is forgotten: nothing that was there has changed, and the result holds no place. -/
theorem Spec.pure {P : Program} {g : FuncId} {args : List Value} {h : Heap} {n : Nat} {Q : Value → Prop} (hs : Spec P g args h n fun r h' _ => Q r ∧ closed3 r = true ∧ ∀ L, L < n → h' L = h L) : Spec P g args h n fun r h' n' => Q r ∧ h' = h ∧ n' = n := by
  refine ⟨fun m w args' ha H hd => (hs.run m w args' ha H hd).mono ?_⟩
  rintro e w' ⟨r, r', h', n', m', rfl, h2, h3, h4, h5, hq, hc, hsame⟩
  let m2 : LMap := fun L g => if L < n then m' L g else none
  have hle2 : m2.le m' := by intro L g p hp; simp only [m2] at hp; split at hp; exact hp; cases hp
  have hle : m.le m2 := by
    intro L g p hp
    have := hd L g p hp
    simp only [m2, this, if_true]; exact h5.step.le _ _ _ hp
  have hlt : ∀ L b, h L = some b → L < n := by
    intro L b hL
    obtain ⟨k, o, r, _, _, h6, _⟩ := H.blk L b hL
    exact hd _ _ _ h6
  refine ⟨r, r', h, n, m2, rfl, (by rw [h2.eq hc]; exact VR3.refl hc), ?_, ?_, ⟨⟨hle, h5.step.os, h5.step.tape, h5.step.output, h5.step.size, h5.step.frame, ?_⟩, Nat.le_refl n, ?_⟩, hq, rfl, rfl⟩
  · refine h3.forget ?_ hle2 (H.gl.mono hle) H.gh
    intro L b hL
    have hL' := hlt L b hL
    refine ⟨by rw [hsame L hL']; exact hL, fun g => by simp only [m2, hL', if_true], ?_⟩
    intro v hv v' hvv
    obtain ⟨j, hj⟩ := List.mem_iff_getElem?.1 hv
    obtain ⟨k, o, r0, h6, h7⟩ : ∃ k o r, m L b.gen = some (k, o, r) ∧ True := by
      obtain ⟨k, o, r, _, _, h6, _⟩ := H.blk L b hL; exact ⟨k, o, r, h6, trivial⟩
    obtain ⟨v0, _, h8⟩ := H.cell hL h6 hj
    exact (h8.back h5.step.le hvv).mono hle
  · intro L g p hp; simp only [m2] at hp; split at hp
    · assumption
    · cases hp
  · intro L b k o r hL ho hm hk
    exact ⟨L, b, o, r, hL, ho, by
      obtain ⟨k1, o1, r1, _, _, h6, _⟩ := H.blk L b hL
      have := hle _ _ _ h6
      rw [hm] at this; cases this; exact h6⟩
  · intro L g p hp
    have hL : L < n := by simp only [m2] at hp; split at hp; assumption; cases hp
    rcases h5.lab L g p (hle2 _ _ _ hp) with h | h
    · exact .inl h
    · omega
end Go.Dm
/- The abstract machine, part N: contracts of pure functions, and help for simp. -/
set_option linter.unusedSimpArgs false
set_option linter.unusedVariables false
namespace Go.Dm
open Go

/-- A function that answers by its arguments alone. -/
def Pure (P : Program) (g : FuncId) (args : List Value) (r : Value) : Prop := ∀ h n, Spec P g args h n fun r' h' n' => r' = r ∧ h' = h ∧ n' = n
theorem Pure.use {P : Program} {g : FuncId} {args : List Value} {r : Value} (hp : Pure P g args r) {h : Heap} {n : Nat} {Q : Value → Heap → Nat → Prop} (hq : Q r h n) : Spec P g args h n Q :=
  (hp h n).mono fun _ _ _ ⟨h1, h2, h3⟩ => by rw [h1, h2, h3]; exact hq
theorem Spec.use {P : Program} {g : FuncId} {args : List Value} {h : Heap} {n : Nat} {r : Value} {h1 : Heap} {n1 : Nat} (hp : Spec P g args h n fun r' h' n' => r' = r ∧ h' = h1 ∧ n' = n1) {Q : Value → Heap → Nat → Prop} (hq : Q r h1 n1) : Spec P g args h n Q :=
  hp.mono fun _ _ _ ⟨h1, h2, h3⟩ => by rw [h1, h2, h3]; exact hq
theorem Pure.draw {P : Program} {ops : Array Oper} {rest : List Oper} {T : TEnv} {d : Option Tmp} {g : FuncId} {vs : List Value} {r : Value} (hp : Pure P g vs r) {h : Heap} {n : Nat} {acc : List PE} {K : TEnv → Heap → Nat → List PE → Prop}
    (hq : RunD P ops rest (putA T d r) h n (acc ++ [⟨r, [], n, n, [], false⟩]) K) :
    (∃ r F, (∀ h2 n2, (∀ L ∈ F, h2 L = h L) → Spec P g vs h2 n2 fun r' h' n' => r' = r ∧ h' = h2 ∧ n' = n2) ∧ RunD P ops rest (putA T d r) h n (acc ++ [⟨r, [], n, n, F, false⟩]) K) ∨
    (∃ r us n', n ≤ n' ∧ (∀ u ∈ us, u.1 < n') ∧ (Spec P g vs h n fun r' h' n1 => r' = r ∧ h' = applyU h us ∧ n1 = n') ∧ RunD P ops rest (putA T d r) (applyU h us) n' (acc ++ [⟨r, us, n, n', [], true⟩]) K) :=
  .inl ⟨r, [], fun h2 n2 _ => hp h2 n2, hq⟩
/-- What a body must leave. -/
def RetQ (P : Program) (rs : List ResultVar) (Q : Value → Heap → Nat → Prop) : Exit → TEnv → Heap → Nat → Prop := fun x T' h' n' => (x = .normal ∨ x = .ret) ∧ ∃ r, resultsA P rs T' h' = some r ∧ Q r h' n'
theorem RetQ.ret {P : Program} {rs : List ResultVar} {Q : Value → Heap → Nat → Prop} {T : TEnv} {h : Heap} {n : Nat} {r : Value} (hr : resultsA P rs T h = some r) (hq : Q r h n) : RetQ P rs Q .ret T h n := ⟨.inr rfl, r, hr, hq⟩
theorem RetQ.normal {P : Program} {rs : List ResultVar} {Q : Value → Heap → Nat → Prop} {T : TEnv} {h : Heap} {n : Nat} {r : Value} (hr : resultsA P rs T h = some r) (hq : Q r h n) : RetQ P rs Q .normal T h n := ⟨.inl rfl, r, hr, hq⟩
theorem Spec.body {P : Program} {g : FuncId} {fn : Func} {c : Code} (hf : P.funcs[g]? = some fn) (hb : fn.body = some c) (hnm : (fn.name == "runtime.NumGoroutine") = false) {args : List Value} {N : Nat} {rs : List ResultVar} (hN : fn.ntmps = N) (hrs : fn.results.toList = rs) (hlen : args.length ≤ N) {h : Heap} {n : Nat} {Q : Value → Heap → Nat → Prop}
    (hsat : Sat P N c (argEnv 0 args) h n (RetQ P rs Q)) : Spec P g args h n Q := by
  subst hN; subst hrs
  exact Spec.of_body hf hb hnm hlen hsat
def PureQ (P : Program) (rs : List ResultVar) (r : Value) (h : Heap) (n : Nat) : Exit → TEnv → Heap → Nat → Prop := RetQ P rs fun r' h' _ => r' = r ∧ closed3 r' = true ∧ ∀ L, L < n → h' L = h L
theorem PureQ.ret {P : Program} {rs : List ResultVar} {T : TEnv} {h0 h : Heap} {n0 n : Nat} {r : Value} (hc : closed3 r = true) (hh : ∀ L, L < n0 → h L = h0 L) (hr : resultsA P rs T h = some r) : PureQ P rs r h0 n0 .ret T h n := ⟨.inr rfl, r, hr, rfl, hc, hh⟩
theorem PureQ.normal {P : Program} {rs : List ResultVar} {T : TEnv} {h0 h : Heap} {n0 n : Nat} {r : Value} (hc : closed3 r = true) (hh : ∀ L, L < n0 → h L = h0 L) (hr : resultsA P rs T h = some r) : PureQ P rs r h0 n0 .normal T h n := ⟨.inl rfl, r, hr, rfl, hc, hh⟩
theorem Pure.of_body {P : Program} {g : FuncId} {fn : Func} {c : Code} (hf : P.funcs[g]? = some fn) (hb : fn.body = some c) (hnm : (fn.name == "runtime.NumGoroutine") = false) {args : List Value} {N : Nat} {rs : List ResultVar} (hN : fn.ntmps = N) (hrs : fn.results.toList = rs) (hlen : args.length ≤ N) {r : Value}
    (hsat : ∀ h n, Sat P N c (argEnv 0 args) h n (PureQ P rs r h n)) : Pure P g args r := fun h n => by
  subst hN; subst hrs
  exact Spec.pure (Q := fun r' => r' = r) (Spec.of_body hf hb hnm hlen (hsat h n))
/-! ### Heaps -/
theorem upd_at (h : Heap) (L L' : Nat) (b : Blk) : upd h L b L' = if L' = L then some b else h L' := rfl
theorem upd_upd (h : Heap) (L : Nat) (b c : Blk) : upd (upd h L b) L c = upd h L c := by funext x; simp only [upd_at]; split <;> rfl
theorem keep_upd {h h0 : Heap} {n0 k : Nat} {b : Blk} (hk : n0 ≤ k) (hh : ∀ L, L < n0 → h L = h0 L) : ∀ L, L < n0 → upd h k b L = h0 L := fun L hL => by rw [upd_at, if_neg (by omega)]; exact hh L hL
theorem keep_refl {h0 : Heap} {n0 : Nat} : ∀ L, L < n0 → h0 L = h0 L := fun _ _ => rfl
theorem wrap_in {x : Int} (h1 : -9223372036854775808 ≤ x) (h2 : x ≤ 9223372036854775807) : IntKind.i64.wrap x = x := by
  simp only [IntKind.wrap, IntKind.bits, IntKind.signed]; simp; split <;> omega
/-! simp goes into states and not into code. -/
theorem Sat_congr {P : Program} {N : Nat} {c : Code} {T T' : TEnv} {h h' : Heap} {n n' : Nat} {Q : Exit → TEnv → Heap → Nat → Prop} (e1 : T = T') (e2 : h = h') (e3 : n = n') : Sat P N c T h n Q = Sat P N c T' h' n' Q := by rw [e1, e2, e3]
theorem Spec_congr {P : Program} {g g' : FuncId} {vs vs' : List Value} {h h' : Heap} {n n' : Nat} {Q : Value → Heap → Nat → Prop} (e0 : g = g') (e1 : vs = vs') (e2 : h = h') (e3 : n = n') : Spec P g vs h n Q = Spec P g' vs' h' n' Q := by rw [e0, e1, e2, e3]
theorem RunSeq_congr {P : Program} {ops : Array Oper} {l : List Oper} {T T' : TEnv} {h h' : Heap} {n n' : Nat} {K : TEnv → Heap → Nat → Prop} (e1 : T = T') (e2 : h = h') (e3 : n = n') : RunSeq P ops l T h n K = RunSeq P ops l T' h' n' K := by rw [e1, e2, e3]
theorem RunD_congr {P : Program} {ops : Array Oper} {l : List Oper} {T T' : TEnv} {h h' : Heap} {n n' : Nat} {acc acc' : List PE} {K : TEnv → Heap → Nat → List PE → Prop} (e1 : T = T') (e2 : h = h') (e3 : n = n') (e4 : acc = acc') : RunD P ops l T h n acc K = RunD P ops l T' h' n' acc' K := by rw [e1, e2, e3, e4]
end Go.Dm
/- The abstract machine, part O: regions and operations in a form that simp walks quickly. -/
set_option linter.unusedSimpArgs false
set_option linter.unusedVariables false
namespace Go.Dm
open Go

/-- A word that keeps simp out: what it speaks of is fixed. -/
structure Hide {α : Type} (a : α) : Type where
def obind {α : Type} (x : Option α) (k : α → Prop) (_ : Hide k := ⟨⟩) : Prop := match x with | some a => k a | none => False
theorem obind_some {α : Type} (a : α) (k : α → Prop) (e : Hide k) : obind (some a) k e = k a := propext Iff.rfl
theorem obind_none {α : Type} (k : α → Prop) (e : Hide k) : obind none k e = False := propext Iff.rfl
def binXO (P : Program) (op : BinOp) (t : TypeId) : Option Value → Option Value → Option Value
  | some a, some b => binX P op t a b
  | _, _ => none
def binB (P : Program) (op : BinOp) (t : TypeId) (x y : Option Value) : Option Value :=
  match eqNilA P op t x y with
  | some v => some v
  | none => match x, y with | some a, some b => if closed3 a && closed3 b then fastBin P op t a b else none | _, _ => none
def orE {α : Type} (x y : Option α) : Option α := match x with | some v => some v | none => y
theorem orE_some {α : Type} (v : α) (y : Option α) : orE (some v) y = some v := rfl
theorem orE_none {α : Type} (y : Option α) : orE none y = y := rfl
def binF (P : Program) (op : BinOp) (t : TypeId) (x y : Option Value) : Option Value := orE (binXO P op t x y) (binB P op t x y)
def unF (op : UnOp) (x : Option Value) : Option Value := match x with | some a => if closed3 a then fastUn op a else none | none => none
def convB (P : Program) (s d : TypeId) (x : Value) : Option Value := if closed3 x then fastConv P s d x else none
def convF (P : Program) (h : Heap) (s d : TypeId) (x : Option Value) : Option Value := match x with | some a => orE (convX P h s d a) (convB P s d a) | none => none
def mxF (isMax : Bool) (x : Option Value) (xs : Option (List Value)) : Option Value := match x, xs with
  | some (.int k a), some vs => if vs.all closed3 then (mxV isMax a vs).map (.int k) else none
  | _, _ => none
/-- One operation that is no call of a function. -/
def loadO (P : Program) (h : Heap) (t : TypeId) : Option Value → Option Value | some (.pointer (some a)) => loadA P h t a | _ => none
def storeO (P : Program) (h : Heap) (t : TypeId) : Option Value → Option Value → Option (Nat × Blk)
  | some (.pointer (some a)), some v => if notTuple v then storeA P h t a v else none
  | _, _ => none
def allocO (P : Program) (e : TypeId) : Option Value := match zeroOf P e with | some z => if closed3 z && notTuple z then some z else none | none => none
def boxO : Option Value → Option Value | some v => if notTuple v then some v else none | none => none
def sliceO (P : Program) (t : TypeId) : Option Value → Option (Option Value) → Option (Option Value) → Option Value
  | some v, some l, some r => orE (sliceX P t v l r) (sliceA P t v l r)
  | _, _, _ => none
def indexXO (P : Program) (t : TypeId) : Option Value → Option Value → Option Value
  | some a, some b => indexX P t a b
  | _, _ => none
def lenO (P : Program) (t : TypeId) (x : Option Value) : Option Value := orE (match x with | some v => lenS P t v | none => none) (lenA P t x)
def ifaceO (P : Program) (t : TypeId) (x : Option Value) : Option Value := match P.underlying t, x with | some (.interface _), _ => none | some _, some v => if isV0 v then some (.iface t v) else none | _, _ => none
def indexB (P : Program) (t : TypeId) (x i : Option Value) : Option Value := match P.underlying t, x, i with
  | some (.array n e), some (.agg cs), some (.int _ j) => if closed3 (.agg cs) && decide (0 < P.cellsOf e ∧ 0 ≤ j ∧ j < n) then (match partA P e cs (j.toNat * P.cellsOf e) with | some v => if closed3 v then some v else none | none => none) else none
  | _, _, _ => none
def indexO (P : Program) (t : TypeId) (x i : Option Value) : Option Value := orE (indexXO P t x i) (indexB P t x i)
def buildV (P : Program) (t : TypeId) (vs : Option (List (Nat × Value))) : Option Value :=
  match P.underlying t, zeroOf P t, vs with
  | some (.struct fs), some z, some vs =>
    if fieldsOK P fs && z.cells.toList.all closed1 then (Instr.fill ((structPlaces P fs)[·]?) z.cells vs).map .agg else none
  | some (.array _ e), some z, some vs =>
    if decide (0 < P.cellsOf e) && z.cells.toList.all closed1 then (Instr.fill (fun i => some (i * P.cellsOf e, P.cellsOf e)) z.cells vs).map .agg else none
  | _, _, _ => none
theorem buildV_eq (P : Program) (t : TypeId) (T : TEnv) (ps : Array (Nat × Operand)) : buildA P t T ps = buildV P t (evParts T ps.toList) := rfl
def buildSliceV (P : Program) (t : TypeId) (len : Nat) (vs : Option (List (Nat × Value))) (L : Nat) : Option (Value × Blk) :=
  match P.underlying t, vs with
  | some (.slice e), some vs =>
    match zeroOf P e with
    | some z =>
      if 0 < P.cellsOf e ∧ len * P.cellsOf e ≤ 16777216 ∧ z.cells.size = P.cellsOf e ∧ z.cells.toList.all closed1 = true then
        (Instr.fill (fun i => some (i * P.cellsOf e, P.cellsOf e)) (sliceZero z.cells (len * P.cellsOf e)) vs).map fun r => (.slice (some ⟨L, 0, none⟩) len 1, ⟨r.toList, e, 0, true⟩)
      else none
    | none => none
  | _, _ => none
theorem buildSliceV_eq (P : Program) (t : TypeId) (len : Nat) (T : TEnv) (ps : Array (Nat × Operand)) (L : Nat) : buildSliceA P t len T ps L = buildSliceV P t len (evParts T ps.toList) L := rfl
def stepC (P : Program) (c : Call) (T : TEnv) (h : Heap) (n : Nat) (k : Value → Option (Nat × Blk) → Prop) : Prop :=
  match c with
  | ⟨.builtin .len, ⟨[x]⟩, ⟨[t]⟩⟩ => obind (lenO P t (ev T x)) fun v => k v none
  | ⟨.builtin .append, ⟨[s, x]⟩, ⟨[t, t']⟩⟩ => if t = t' then obind (ev T s) fun s => obind (ev T x) fun x => obind (appendA P h t s x n) fun r => k r.1 r.2 else obind (ev T s) fun s => obind (ev T x) fun x => obind (appendS P h t t' s x n) fun r => k r.1 r.2
  | ⟨.builtin .max, ⟨x :: xs⟩, _⟩ => obind (mxF true (ev T x) (evAll T xs)) fun v => k v none
  | ⟨.builtin .min, ⟨x :: xs⟩, _⟩ => obind (mxF false (ev T x) (evAll T xs)) fun v => k v none
  | ⟨.builtin .copy, ⟨[d, x]⟩, ⟨[t, _]⟩⟩ => obind (ev T d) fun d => obind (ev T x) fun x => obind (copyX P h t d x) fun r => k r.1 r.2
  | ⟨.builtin .unsafeSliceData, ⟨[x]⟩, ⟨[_]⟩⟩ => obind (ev T x) fun x => obind (dataX x) fun v => k v none
  | ⟨.builtin .unsafeString, ⟨[p, l]⟩, ⟨[pt, _]⟩⟩ => obind (ev T p) fun p => obind (ev T l) fun l => obind (stringX P h pt p l) fun r => k r.1 r.2
  | ⟨.builtin .cap, ⟨[x]⟩, ⟨[t]⟩⟩ => obind (ev T x) fun x => obind (capX P t x) fun v => k v none
  | _ => False
def stepE (P : Program) (op : Op) (T : TEnv) (h : Heap) (n : Nat) (k : Value → Option (Nat × Blk) → Prop) : Prop :=
  match op with
  | .move x => obind (ev T x) fun v => k v none
  | .assign x => obind (ev T x) fun v => k v none
  | .pick c a b => obind (pickA (ev T c) (ev T a) (ev T b)) fun v => k v none
  | .nilCheck x => obind (nilCheckA (ev T x)) fun v => k v none
  | .fieldAddr s x f => obind (fieldAddrA P s (ev T x) f) fun v => k v none
  | .indexAddr t x ix => obind (indexAddrA P t (ev T x) (ev T ix)) fun v => k v none
  | .load t x => obind (loadO P h t (ev T x)) fun v => k v none
  | .store t x y => obind (storeO P h t (ev T x) (ev T y)) fun e => k undef (some e)
  | .alloc e => obind (allocO P e) fun z => k (.pointer (some ⟨n, 0, none⟩)) (some (n, newA e z))
  | .box e x => obind (boxO (ev T x)) fun v => k (.pointer (some ⟨n, 0, none⟩)) (some (n, newA e v))
  | .build t ps => obind (buildA P t T ps) fun v => k v none
  | .buildSlice t len ps => obind (buildSliceA P t len T ps n) fun r => k r.1 (some (n, r.2))
  | .field t x f => obind (ev T x) fun v => obind (fieldA P t v f) fun v => k v none
  | .extract x i => obind (ev T x) fun v => obind (extractA v i) fun v => k v none
  | .makeFunc fn first captured => obind (makeFuncA fn first T captured) fun v => k v none
  | .slice t x lo hi none => obind (sliceO P t (ev T x) (evOpt T lo) (evOpt T hi)) fun v => k v none
  | .binOp op t x y t' => obind (binF P op t (ev T x) (ev T y)) fun v => k v none
  | .unOp op t x => obind (unF op (ev T x)) fun v => k v none
  | .convert s d x => obind (convF P h s d (ev T x)) fun v => k v none
  | .makeSlice t l c => obind (ev T l) fun l => obind (ev T c) fun c => obind (makeX P t l c n) fun r => k r.1 r.2
  | .makeInterface t x => obind (ifaceO P t (ev T x)) fun v => k v none
  | .index t x i => obind (indexO P t (ev T x) (ev T i)) fun v => k v none
  | .call c => stepC P c T h n k
  | _ => False
theorem obind_ext {α : Type} {x : Option α} {k k' : α → Prop} {e : Hide k} {e' : Hide k'} (h : ∀ a, k a = k' a) : obind x k e = obind x k' e' := by
  cases x with
  | none => rfl
  | some a => exact h a
theorem mapM_evAll (T : TEnv) : ∀ xs : List Operand, xs.mapM (ev T) = evAll T xs
  | [] => rfl
  | x :: r => by simp only [List.mapM_cons, evAll, mapM_evAll T r]; cases ev T x <;> cases evAll T r <;> rfl
theorem obind_iff {α : Type} {x : Option α} {k : α → Prop} {e : Hide k} (h : obind x k e) : ∃ a, x = some a ∧ k a := by
  cases x with
  | none => exact h.elim
  | some a => exact ⟨a, rfl, h⟩
theorem appendS_same {P : Program} {h : Heap} {t : TypeId} {s x : Value} {n : Nat} : appendS P h t t s x n = none := by
  unfold appendS
  cases hu : P.underlying t with
  | none => rfl
  | some d => cases d <;> rfl
theorem lop_fast {P : Program} {o : Oper} {T : TEnv} {h : Heap} {n : Nat} {r : Value} (hx : xop P o T h n = none) (hop : lopA P o T h n = (pureEval P o T).map (·, none)) (hf : fastEval P o T = some r) : lop P o T h n = some (r, none) := by
  rw [lop_A hx, hop]; unfold pureEval; rw [hf]; rfl
theorem stepE_sound {P : Program} {o : Oper} {T : TEnv} {h : Heap} {n : Nat} {k : Value → Option (Nat × Blk) → Prop} (hs : stepE P o.op T h n k) : callOf o = none ∧ ∃ v e, lop P o T h n = some (v, e) ∧ k v e := by
  have simple : ∀ {x : Option Value}, callOf o = none → xop P o T h n = none → lopA P o T h n = x.map (·, none) → (obind x fun v => k v none) → callOf o = none ∧ ∃ v e, lop P o T h n = some (v, e) ∧ k v e := by
    intro x h1 h0 h2 h3
    obtain ⟨v, rfl, hv⟩ := obind_iff h3
    exact ⟨h1, v, none, (lop_A h0).trans h2, hv⟩
  have fast : ∀ {r : Value}, callOf o = none → xop P o T h n = none → lopA P o T h n = (pureEval P o T).map (·, none) → fastEval P o T = some r → k r none → callOf o = none ∧ ∃ v e, lop P o T h n = some (v, e) ∧ k v e :=
    fun h1 h0 h2 h3 h4 => ⟨h1, _, none, lop_fast h0 h2 h3, h4⟩
  have ext : ∀ {v : Value} {e : Option (Nat × Blk)}, callOf o = none → xop P o T h n = some (v, e) → k v e → callOf o = none ∧ ∃ v e, lop P o T h n = some (v, e) ∧ k v e :=
    fun h1 h0 h2 => ⟨h1, _, _, lop_X h0, h2⟩
  cases hop : o.op <;> rw [hop] at hs <;> simp only [stepE] at hs <;> try (exact hs.elim)
  case move x => exact simple (by simp [callOf, hop]) (by simp [xop, hop]) (by simp [lopA, hop]) hs
  case assign x => exact simple (by simp [callOf, hop]) (by simp [xop, hop]) (by simp [lopA, hop]) hs
  case pick c a b => exact simple (by simp [callOf, hop]) (by simp [xop, hop]) (by simp [lopA, hop]) hs
  case nilCheck x => exact simple (by simp [callOf, hop]) (by simp [xop, hop]) (by simp [lopA, hop]) hs
  case fieldAddr s x f => exact simple (by simp [callOf, hop]) (by simp [xop, hop]) (by simp [lopA, hop]) hs
  case indexAddr t x ix => exact simple (by simp [callOf, hop]) (by simp [xop, hop]) (by simp [lopA, hop]) hs
  case build t ps => exact simple (by simp [callOf, hop]) (by simp [xop, hop]) (by simp [lopA, hop]) hs
  case makeFunc fn first captured => exact simple (by simp [callOf, hop]) (by simp [xop, hop]) (by simp [lopA, hop]) hs
  case load t x =>
    refine simple (by simp [callOf, hop]) (by simp [xop, hop]) ?_ hs
    simp only [lopA, hop, loadO]
    cases ev T x with
    | none => rfl
    | some v => cases v with
      | pointer A => cases A <;> rfl
      | _ => rfl
  case store t x y =>
    obtain ⟨e, he, hk⟩ := obind_iff hs
    unfold storeO at he
    split at he
    · rename_i a v ha hv
      split at he
      · rename_i hn
        exact ⟨by simp [callOf, hop], undef, some e, (lop_A (by simp [xop, hop])).trans (by simp [lopA, hop, ha, hv, hn, he]), hk⟩
      · cases he
    · cases he
  case alloc e =>
    obtain ⟨z, hz, hs⟩ := obind_iff hs
    unfold allocO at hz
    split at hz
    · rename_i z' hz'
      split at hz
      · rename_i hc; cases hz; exact ⟨by simp [callOf, hop], _, some (n, newA e z), (lop_A (by simp [xop, hop])).trans (by simp only [lopA, hop, hz']; rw [if_pos hc]), hs⟩
      · cases hz
    · cases hz
  case box e x =>
    obtain ⟨z, hz, hs⟩ := obind_iff hs
    unfold boxO at hz
    split at hz
    · rename_i z' hz'
      split at hz
      · rename_i hc; cases hz; exact ⟨by simp [callOf, hop], _, some (n, newA e z), (lop_A (by simp [xop, hop])).trans (by simp only [lopA, hop, hz']; rw [if_pos hc]), hs⟩
      · cases hz
    · cases hz
  case buildSlice t len ps =>
    obtain ⟨r, hr, hs⟩ := obind_iff hs
    exact ⟨by simp [callOf, hop], r.1, some (n, r.2), (lop_A (by simp [xop, hop])).trans (by simp [lopA, hop, hr]), hs⟩
  case field t x f =>
    obtain ⟨z, hz, hs⟩ := obind_iff hs
    exact simple (by simp [callOf, hop]) (by simp [xop, hop]) (by simp [lopA, hop, hz]) hs
  case extract x i =>
    obtain ⟨z, hz, hs⟩ := obind_iff hs
    exact simple (by simp [callOf, hop]) (by simp [xop, hop]) (by simp [lopA, hop, hz]) hs
  case slice t x lo hi mx =>
    cases mx with
    | some _ => exact hs.elim
    | none =>
      simp only at hs
      obtain ⟨r, hr, hs⟩ := obind_iff hs
      unfold sliceO at hr
      split at hr
      · rename_i v l r' hv hl hr'
        cases hx : sliceX P t v l r' with
        | some u =>
          rw [hx, orE_some] at hr; cases hr
          exact ext (by simp [callOf, hop]) (by simp [xop, hop, hv, hl, hr', hx]) hs
        | none =>
          rw [hx, orE_none] at hr
          exact ⟨by simp [callOf, hop], r, none, (lop_A (by simp [xop, hop, hv, hl, hr', hx])).trans (by simp [lopA, hop, hv, hl, hr', hr]), hs⟩
      · cases hr
  case makeSlice t l c =>
    obtain ⟨lv, hl, hs⟩ := obind_iff hs
    obtain ⟨cv, hc, hs⟩ := obind_iff hs
    obtain ⟨r, hr, hs⟩ := obind_iff hs
    exact ext (v := r.1) (e := r.2) (by simp [callOf, hop]) (by simp [xop, hop, hl, hc, hr]) hs
  case makeInterface t x =>
    obtain ⟨r, hr, hs⟩ := obind_iff hs
    unfold ifaceO at hr
    split at hr
    · cases hr
    · rename_i d v hni hd hv
      split at hr
      · rename_i hv0; cases hr
        refine ext (v := .iface t v) (e := none) (by simp [callOf, hop]) ?_ hs
        simp only [xop, hop, hd, hv]
        rw [if_pos hv0]
      · cases hr
    · cases hr
  case binOp op t x y z =>
    obtain ⟨r, hr, hs⟩ := obind_iff hs
    unfold binF at hr
    cases hx : binXO P op t (ev T x) (ev T y) with
    | some u =>
      rw [hx, orE_some] at hr; cases hr
      unfold binXO at hx
      split at hx
      · rename_i a b ha hb
        exact ext (by simp [callOf, hop]) (by simp [xop, hop, ha, hb, hx]) hs
      · cases hx
    | none =>
      rw [hx, orE_none] at hr
      have h0 : xop P o T h n = none := by
        simp only [xop, hop]
        cases hxx : ev T x with
        | none => rfl
        | some a => cases hyy : ev T y with
          | none => rfl
          | some b => rw [hxx, hyy] at hx; simp only [binXO] at hx; simp [hx]
      unfold binB at hr
      split at hr
      · rename_i v hv; cases hr; exact ⟨by simp [callOf, hop], _, none, (lop_A h0).trans (by simp [lopA, hop, hv]), hs⟩
      · rename_i hv
        refine fast (by simp [callOf, hop]) h0 (by simp [lopA, hop, hv]) (r := r) ?_ hs
        simp only [fastEval, hop]; exact hr
  case unOp op t x =>
    obtain ⟨r, hr, hs⟩ := obind_iff hs
    refine fast (by simp [callOf, hop]) (by simp [xop, hop]) (by simp [lopA, hop]) (r := r) ?_ hs
    simp only [fastEval, hop]; exact hr
  case convert s d x =>
    obtain ⟨r, hr, hs⟩ := obind_iff hs
    unfold convF at hr
    split at hr
    · rename_i v hv
      cases hx : convX P h s d v with
      | some u =>
        rw [hx, orE_some] at hr; cases hr
        exact ext (by simp [callOf, hop]) (by simp [xop, hop, hv, hx]) hs
      | none =>
        rw [hx, orE_none] at hr
        refine fast (by simp [callOf, hop]) (by simp [xop, hop, hv, hx]) (by simp [lopA, hop]) (r := r) ?_ hs
        simp only [fastEval, hop, hv]; exact hr
    · cases hr
  case index t x i =>
    obtain ⟨r, hr, hs⟩ := obind_iff hs
    unfold indexO at hr
    cases hx : indexXO P t (ev T x) (ev T i) with
    | some u =>
      rw [hx, orE_some] at hr; cases hr
      unfold indexXO at hx
      split at hx
      · rename_i a b ha hb
        exact ext (by simp [callOf, hop]) (by simp [xop, hop, ha, hb, hx]) hs
      · cases hx
    | none =>
      rw [hx, orE_none] at hr
      have h0 : xop P o T h n = none := by
        simp only [xop, hop]
        cases hxx : ev T x with
        | none => rfl
        | some a => cases hyy : ev T i with
          | none => rfl
          | some b => rw [hxx, hyy] at hx; simp only [indexXO] at hx; simp [hx]
      refine fast (by simp [callOf, hop]) h0 (by simp [lopA, hop]) (r := r) ?_ hs
      simp only [fastEval, hop]; exact hr
  case call c =>
    unfold stepC at hs
    split at hs
    · rename_i x t
      obtain ⟨v, hv, hs⟩ := obind_iff hs
      unfold lenO at hv
      cases he : ev T x with
      | none => rw [he] at hv; simp only [orE_none] at hv; unfold lenA at hv; split at hv <;> simp_all
      | some xv =>
        rw [he] at hv
        simp only at hv
        cases hx : lenS P t xv with
        | some u =>
          rw [hx, orE_some] at hv; cases hv
          exact ext (by simp [callOf, hop]) (by simp [xop, hop, callX, he, hx]) hs
        | none =>
          rw [hx, orE_none] at hv
          exact ⟨by simp [callOf, hop], v, none, (lop_A (by simp [xop, hop, callX, he, hx])).trans (by simp [lopA, hop, callA, he, hv]), hs⟩
    · rename_i s x t t'
      split at hs
      · rename_i htt
        obtain ⟨sv, hsv, hs⟩ := obind_iff hs
        obtain ⟨xv, hxv, hs⟩ := obind_iff hs
        obtain ⟨r, hr, hs⟩ := obind_iff hs
        subst htt
        have h0 : xop P o T h n = none := by
          simp only [xop, hop, callX, hsv, hxv, appendS_same]
        exact ⟨by simp [callOf, hop], r.1, r.2, (lop_A h0).trans (by simp [lopA, hop, callA, hsv, hxv, hr]), hs⟩
      · obtain ⟨sv, hsv, hs⟩ := obind_iff hs
        obtain ⟨xv, hxv, hs⟩ := obind_iff hs
        obtain ⟨r, hr, hs⟩ := obind_iff hs
        exact ext (v := r.1) (e := r.2) (by simp [callOf, hop]) (by simp [xop, hop, callX, hsv, hxv, hr]) hs
    · rename_i x xs t
      obtain ⟨r, hr, hs⟩ := obind_iff hs
      refine fast (by simp [callOf, hop]) (by simp [xop, hop, callX]) (by simp [lopA, hop, callA]) (r := r) ?_ hs
      unfold mxF at hr
      split at hr
      · rename_i kk a vs h1 h2; simp only [fastEval, hop, h1]; rw [mapM_evAll, h2]; exact hr
      · cases hr
    · rename_i x xs t
      obtain ⟨r, hr, hs⟩ := obind_iff hs
      refine fast (by simp [callOf, hop]) (by simp [xop, hop, callX]) (by simp [lopA, hop, callA]) (r := r) ?_ hs
      unfold mxF at hr
      split at hr
      · rename_i kk a vs h1 h2; simp only [fastEval, hop, h1]; rw [mapM_evAll, h2]; exact hr
      · cases hr
    · rename_i d x t _
      obtain ⟨dv, hd, hs⟩ := obind_iff hs
      obtain ⟨xv, hx, hs⟩ := obind_iff hs
      obtain ⟨r, hr, hs⟩ := obind_iff hs
      exact ext (v := r.1) (e := r.2) (by simp [callOf, hop]) (by simp [xop, hop, callX, hd, hx, hr]) hs
    · rename_i x _
      obtain ⟨xv, hx, hs⟩ := obind_iff hs
      obtain ⟨r, hr, hs⟩ := obind_iff hs
      exact ext (by simp [callOf, hop]) (by simp [xop, hop, callX, hx, hr]) hs
    · rename_i p l pt _
      obtain ⟨pv, hp, hs⟩ := obind_iff hs
      obtain ⟨lv, hl, hs⟩ := obind_iff hs
      obtain ⟨r, hr, hs⟩ := obind_iff hs
      exact ext (v := r.1) (e := r.2) (by simp [callOf, hop]) (by simp [xop, hop, callX, hp, hl, hr]) hs
    · rename_i x t
      obtain ⟨xv, hx, hs⟩ := obind_iff hs
      obtain ⟨r, hr, hs⟩ := obind_iff hs
      exact ext (by simp [callOf, hop]) (by simp [xop, hop, callX, hx, hr]) hs
    · exact hs.elim

/-! ### Regions -/
def wantG (w : Bool) : Option Value → Option Bool
  | some (.bool b) => some (b == w)
  | some (.tuple vs) => if vs.isEmpty then some false else none
  | _ => none
theorem wantG_bool (w b : Bool) : wantG w (some (.bool b)) = some (b == w) := rfl
theorem wantG_undef (w : Bool) : wantG w (some (.tuple #[])) = some false := rfl
def dstL : List Oper → Nat → Option Nat
  | [], _ => none
  | o :: _, 0 => o.dst
  | _ :: r, j + 1 => dstL r j
def dstAt (ops : Array Oper) (j : Nat) : Option Nat := dstL ops.toList j
theorem dstL_eq : ∀ (l : List Oper) (j : Nat), dstL l j = (l[j]?).bind (·.dst)
  | [], _ => rfl
  | _ :: _, 0 => rfl
  | _ :: r, j + 1 => by simp [dstL, dstL_eq r j]
theorem dstL_zero {d : Option Tmp} {op : Op} {ty : TypeId} {p : String} {a : Array Edge} {g : Option (Nat × Bool)} {r : List Oper} : dstL (⟨d, op, ty, p, a, g⟩ :: r) 0 = d := by simp [dstL]
theorem dstL_succ {o : Oper} {r : List Oper} {j : Nat} : dstL (o :: r) (j + 1) = dstL r j := by simp [dstL]
theorem dstAt_mk {l : List Oper} {j : Nat} : dstAt ⟨l⟩ j = dstL l j := by simp [dstAt]
theorem dstAt_eq (ops : Array Oper) (j : Nat) : dstAt ops j = (ops[j]?).bind (·.dst) := by simp [dstAt, dstL_eq]
def findO (T : TEnv) : Option Nat → Option Value | some d => find T d | none => none
theorem findO_some (T : TEnv) (d : Nat) : findO T (some d) = find T d := rfl
def calleeS (T : TEnv) (f : Operand) (args : List Operand) : Option (FuncId × List Value) :=
  match ev T f, evAll T args with
  | some (.func (.func g) _ cap), some vs => some (g, vs ++ cap.toList)
  | _, _ => none
def SpecH (P : Program) (g : FuncId) (vs : List Value) (h : Heap) (n : Nat) (k : Value → Heap → Nat → Prop) (_ : Hide k) : Prop := Spec P g vs h n k
/-- One operation, calls too. -/
def opS (P : Program) (op : Op) (T : TEnv) (h : Heap) (n : Nat) (k : Value → Heap → Nat → Prop) : Prop :=
  match op with
  | .call ⟨.value f, ⟨args⟩, _⟩ => obind (calleeS T f args) fun gv => SpecH P gv.1 gv.2 h n k ⟨⟩
  | op => stepE P op T h n fun v e => k v (eff h e) (allocs n e)
def RunS (P : Program) (ops : Array Oper) : List Oper → TEnv → Heap → Nat → (TEnv → Heap → Nat → Prop) → Prop
  | [], T, h, n, K => K T h n
  | ⟨d, op, _, _, _, none⟩ :: rest, T, h, n, K => opS P op T h n fun v h' n' => RunS P ops rest (putA T d v) h' n' K
  | ⟨d, op, _, _, _, some (j, w)⟩ :: rest, T, h, n, K => obind (wantG w (findO T (dstAt ops j))) fun b =>
    if b = true then opS P op T h n fun v h' n' => RunS P ops rest (putA T d v) h' n' K else RunS P ops rest (putA T d undef) h n K
theorem opS_sound {P : Program} {o : Oper} {T : TEnv} {h : Heap} {n : Nat} {k : Value → Heap → Nat → Prop} (hs : opS P o.op T h n k) :
    (∃ c g vs, callOf o = some c ∧ calleeA T c = some (g, vs) ∧ Spec P g vs h n k) ∨ (callOf o = none ∧ ∃ v e, lop P o T h n = some (v, e) ∧ k v (eff h e) (allocs n e)) := by
  unfold opS at hs
  split at hs
  · rename_i f args tys hop
    obtain ⟨gv, hg, hs⟩ := obind_iff hs
    left
    refine ⟨⟨.value f, ⟨args⟩, tys⟩, gv.1, gv.2, by simp [callOf, hop], ?_, hs⟩
    simp only [calleeA]; exact hg
  · exact .inr (stepE_sound hs)
theorem RunS_sound {P : Program} {ops : Array Oper} : ∀ {l : List Oper} {T : TEnv} {h : Heap} {n : Nat} {K : TEnv → Heap → Nat → Prop}, RunS P ops l T h n K → RunSeq P ops l T h n K := by
  intro l
  induction l with
  | nil => intro T h n K hs; simpa [RunS, RunSeq] using hs
  | cons o rest ih =>
    intro T h n K hs
    have key : opS P o.op T h n (fun v h' n' => RunS P ops rest (putA T o.dst v) h' n' K) → wantedA ops o T = some true → RunSeq P ops (o :: rest) T h n K := by
      intro h1 h2
      unfold RunSeq
      rw [h2]
      simp only [if_true]
      rcases opS_sound h1 with ⟨c, g, vs, h3, h4, h5⟩ | ⟨h3, v, e, h4, h5⟩
      · rw [h3]; simp only [h4]; exact h5.mono fun _ _ _ hh => ih hh
      · rw [h3]; simp only [h4]; exact ih h5
    obtain ⟨d, op, ty, p, a, g⟩ := o
    cases g with
    | none => exact key (by simpa [RunS] using hs) rfl
    | some jw =>
      obtain ⟨j, w⟩ := jw
      simp only [RunS] at hs
      obtain ⟨b, hb, hs⟩ := obind_iff hs
      have hw : wantedA ops ⟨d, op, ty, p, a, some (j, w)⟩ T = some b := by
        unfold wantedA
        cases hdj : (ops[j]?).bind (·.dst) with
        | none => simp [dstAt_eq, hdj, findO, wantG] at hb
        | some dj =>
          simp only [dstAt_eq, hdj, findO] at hb
          unfold wantG at hb
          split at hb <;> rename_i hf <;> simp_all
      split at hs
      · rename_i hbt; subst hbt; exact key hs hw
      · rename_i hbf
        have : b = false := by simpa using hbf
        subst this
        unfold RunSeq
        rw [hw]
        simp only [Bool.false_eq_true, if_false]
        exact ih hs
theorem Sat.reg {P : Program} {N : Nat} {T : TEnv} {h : Heap} {n : Nat} {Q : Exit → TEnv → Heap → Nat → Prop} {id : Nat} {ops : Array Oper} (hd : dstsOK ops N = true) (hrun : RunS P ops ops.toList T h n (Q .normal)) :
    Sat P N (.region id ops false) T h n Q := Sat.region hd (RunS_sound hrun)
/-! ### Regions of open order -/
def readsS (op : Op) (T : TEnv) : List Nat :=
  match op with
  | .load _ x => labOf (ev T x)
  | .store _ x _ => labOf (ev T x)
  | .convert _ _ x => labOf (ev T x)
  | .call ⟨.builtin b, ⟨args⟩, _⟩ => if readB b then args.flatMap fun x => labOf (ev T x) else []
  | _ => []
theorem reads_eq (o : Oper) (T : TEnv) : lreads o T = readsS o.op T := by
  unfold lreads readsS
  cases o.op <;> try rfl
  rename_i c
  obtain ⟨cal, args, tys⟩ := c
  cases cal with
  | builtin b => cases b <;> rfl
  | _ => rfl
/-- A call in a region of open order: one that touches nothing but what it reads, or one whose changes are known. -/
def callD (P : Program) (g : FuncId) (vs : List Value) (h : Heap) (n : Nat) (k : PE → Heap → Nat → Prop) (_ : Hide k) : Prop :=
  (∃ r F, (∀ h2 n2, (∀ L ∈ F, h2 L = h L) → Spec P g vs h2 n2 fun r' h' n' => r' = r ∧ h' = h2 ∧ n' = n2) ∧ k ⟨r, [], n, n, F, false⟩ h n) ∨
  (∃ r us n', n ≤ n' ∧ (∀ u ∈ us, u.1 < n') ∧ (Spec P g vs h n fun r' h' n1 => r' = r ∧ h' = applyU h us ∧ n1 = n') ∧ k ⟨r, us, n, n', [], true⟩ (applyU h us) n') ∨
  (∃ r us F, (∀ h2, (∀ L ∈ F, h2 L = h L) → SpecL P g vs h2 n r us) ∧ k ⟨r, us, n, n + 1, F, false⟩ (applyU h us) (n + 1))
theorem callD.pure {P : Program} {g : FuncId} {vs : List Value} {r : Value} (hp : Pure P g vs r) {h : Heap} {n : Nat} {k : PE → Heap → Nat → Prop} (hq : k ⟨r, [], n, n, [], false⟩ h n) : callD P g vs h n k ⟨⟩ := .inl ⟨r, [], fun h2 n2 _ => hp h2 n2, hq⟩
/-- A pure call that reads memory. -/
theorem callD.reads {P : Program} {g : FuncId} {vs : List Value} {h : Heap} {n : Nat} {k : PE → Heap → Nat → Prop} (r : Value) (F : List Nat) (hp : ∀ h2 n2, (∀ L ∈ F, h2 L = h L) → Spec P g vs h2 n2 fun r' h' n' => r' = r ∧ h' = h2 ∧ n' = n2) (hq : k ⟨r, [], n, n, F, false⟩ h n) : callD P g vs h n k ⟨⟩ := .inl ⟨r, F, hp, hq⟩
theorem callD.heavy {P : Program} {g : FuncId} {vs : List Value} {h : Heap} {n : Nat} {k : PE → Heap → Nat → Prop} (r : Value) (us : List (Nat × Blk)) (n' : Nat) (hn : n ≤ n') (hu : ∀ u ∈ us, u.1 < n') (hp : Spec P g vs h n fun r' h' n1 => r' = r ∧ h' = applyU h us ∧ n1 = n') (hq : k ⟨r, us, n, n', [], true⟩ (applyU h us) n') : callD P g vs h n k ⟨⟩ := .inr (.inl ⟨r, us, n', hn, hu, hp, hq⟩)
/-- A call that makes one label at most, in whatever order. -/
theorem callD.float {P : Program} {g : FuncId} {vs : List Value} {h : Heap} {n : Nat} {k : PE → Heap → Nat → Prop} (r : Value) (us : List (Nat × Blk)) (F : List Nat) (hp : ∀ h2, (∀ L ∈ F, h2 L = h L) → SpecL P g vs h2 n r us) (hq : k ⟨r, us, n, n + 1, F, false⟩ (applyU h us) (n + 1)) : callD P g vs h n k ⟨⟩ := .inr (.inr ⟨r, us, F, hp, hq⟩)
def opD (P : Program) (op : Op) (T : TEnv) (h : Heap) (n : Nat) (k : PE → Heap → Nat → Prop) : Prop :=
  match op with
  | .call ⟨.value f, ⟨args⟩, _⟩ => obind (calleeS T f args) fun gv => callD P gv.1 gv.2 h n k ⟨⟩
  | op => stepE P op T h n fun v e => k ⟨v, e.toList, n, allocs n e, readsS op T, false⟩ (eff h e) (allocs n e)
def RunT (P : Program) (ops : Array Oper) : List Oper → TEnv → Heap → Nat → List PE → (TEnv → Heap → Nat → List PE → Prop) → Prop
  | [], T, h, n, acc, K => K T h n acc
  | ⟨d, op, _, _, _, none⟩ :: rest, T, h, n, acc, K => opD P op T h n fun p h' n' => RunT P ops rest (putA T d p.val) h' n' (acc ++ [p]) K
  | ⟨d, op, _, _, _, some (j, w)⟩ :: rest, T, h, n, acc, K => obind (wantG w (findO T (dstAt ops j))) fun b =>
    if b = true then opD P op T h n fun p h' n' => RunT P ops rest (putA T d p.val) h' n' (acc ++ [p]) K else RunT P ops rest (putA T d undef) h n (acc ++ [⟨undef, [], n, n, [], false⟩]) K
theorem RunT_sound {P : Program} {ops : Array Oper} : ∀ {l : List Oper} {T : TEnv} {h : Heap} {n : Nat} {acc : List PE} {K : TEnv → Heap → Nat → List PE → Prop}, RunT P ops l T h n acc K → RunD P ops l T h n acc K := by
  intro l
  induction l with
  | nil => intro T h n acc K hs; simpa [RunT, RunD] using hs
  | cons o rest ih =>
    intro T h n acc K hs
    have key : opD P o.op T h n (fun p h' n' => RunT P ops rest (putA T o.dst p.val) h' n' (acc ++ [p]) K) → wantedA ops o T = some true → RunD P ops (o :: rest) T h n acc K := by
      intro h1 h2
      unfold RunD
      rw [h2]
      simp only [if_true]
      unfold opD at h1
      split at h1
      · rename_i f args tys hop
        obtain ⟨gv, hg, h1⟩ := obind_iff h1
        have h3 : callOf o = some ⟨.value f, ⟨args⟩, tys⟩ := by simp [callOf, hop]
        have h4 : calleeA T ⟨.value f, ⟨args⟩, tys⟩ = some (gv.1, gv.2) := by simp only [calleeA]; exact hg
        rw [h3]; simp only [h4]
        rcases h1 with ⟨r, F, h5, h6⟩ | ⟨r, us, n', h5, h6, h7, h8⟩ | ⟨r, us, F, h5, h6⟩
        · exact .inl ⟨r, F, h5, ih h6⟩
        · exact .inr (.inl ⟨r, us, n', h5, h6, h7, ih h8⟩)
        · exact .inr (.inr ⟨r, us, F, h5, ih h6⟩)
      · obtain ⟨h3, v, e, h4, h5⟩ := stepE_sound h1
        rw [h3]; simp only [h4]
        rw [reads_eq]
        exact ih h5
    obtain ⟨d, op, ty, p, a, g⟩ := o
    cases g with
    | none => exact key (by simpa [RunT] using hs) rfl
    | some jw =>
      obtain ⟨j, w⟩ := jw
      simp only [RunT] at hs
      obtain ⟨b, hb, hs⟩ := obind_iff hs
      have hw : wantedA ops ⟨d, op, ty, p, a, some (j, w)⟩ T = some b := by
        unfold wantedA
        cases hdj : (ops[j]?).bind (·.dst) with
        | none => simp [dstAt_eq, hdj, findO, wantG] at hb
        | some dj =>
          simp only [dstAt_eq, hdj, findO] at hb
          unfold wantG at hb
          split at hb <;> rename_i hf <;> simp_all
      split at hs
      · rename_i hbt; subst hbt; exact key hs hw
      · rename_i hbf
        have : b = false := by simpa using hbf
        subst this
        unfold RunD
        rw [hw]
        simp only [Bool.false_eq_true, if_false]
        exact ih hs
theorem Sat.drw {P : Program} {N : Nat} {T : TEnv} {h : Heap} {n : Nat} {Q : Exit → TEnv → Heap → Nat → Prop} {id : Nat} {ops : Array Oper} (us : List (Nat × Nat)) (hm : P.follows .mixedOrders = true) (hb : backOK ops = true) (ht : tmpsOK ops = true) (hd : dstsOK ops N = true) (hus : unord ops = us)
    (hrun : RunT P ops ops.toList T h n [] fun T' h' n' acc => Pairs acc us ∧ Q .normal T' h' n') : Sat P N (.region id ops true) T h n Q := Sat.draw us hm hb ht hd hus (RunT_sound hrun)
theorem RunS_nil {P : Program} {ops : Array Oper} {T : TEnv} {h : Heap} {n : Nat} {K : TEnv → Heap → Nat → Prop} : (RunS P ops [] T h n K) = (K T h n) := propext Iff.rfl
theorem RunS_op {P : Program} {ops : Array Oper} {rest : List Oper} {T : TEnv} {h : Heap} {n : Nat} {K : TEnv → Heap → Nat → Prop} {d : Option Tmp} {op : Op} {ty : TypeId} {p : String} {a : Array Edge} : (RunS P ops (⟨d, op, ty, p, a, none⟩ :: rest) T h n K) = (opS P op T h n fun v h' n' => RunS P ops rest (putA T d v) h' n' K) := propext Iff.rfl
theorem RunS_guard {P : Program} {ops : Array Oper} {rest : List Oper} {T : TEnv} {h : Heap} {n : Nat} {K : TEnv → Heap → Nat → Prop} {d : Option Tmp} {op : Op} {ty : TypeId} {p : String} {a : Array Edge} {j : Nat} {w : Bool} : (RunS P ops (⟨d, op, ty, p, a, some (j, w)⟩ :: rest) T h n K) = (obind (wantG w (findO T (dstAt ops j))) fun b => if b = true then opS P op T h n fun v h' n' => RunS P ops rest (putA T d v) h' n' K else RunS P ops rest (putA T d undef) h n K) := propext Iff.rfl
theorem RunT_nil {P : Program} {ops : Array Oper} {T : TEnv} {h : Heap} {n : Nat} {acc : List PE} {K : TEnv → Heap → Nat → List PE → Prop} : (RunT P ops [] T h n acc K) = (K T h n acc) := propext Iff.rfl
theorem RunT_op {P : Program} {ops : Array Oper} {rest : List Oper} {T : TEnv} {h : Heap} {n : Nat} {acc : List PE} {K : TEnv → Heap → Nat → List PE → Prop} {d : Option Tmp} {op : Op} {ty : TypeId} {p : String} {a : Array Edge} : (RunT P ops (⟨d, op, ty, p, a, none⟩ :: rest) T h n acc K) = (opD P op T h n fun p h' n' => RunT P ops rest (putA T d p.val) h' n' (acc ++ [p]) K) := propext Iff.rfl
theorem RunT_guard {P : Program} {ops : Array Oper} {rest : List Oper} {T : TEnv} {h : Heap} {n : Nat} {acc : List PE} {K : TEnv → Heap → Nat → List PE → Prop} {d : Option Tmp} {op : Op} {ty : TypeId} {p : String} {a : Array Edge} {j : Nat} {w : Bool} : (RunT P ops (⟨d, op, ty, p, a, some (j, w)⟩ :: rest) T h n acc K) = (obind (wantG w (findO T (dstAt ops j))) fun b => if b = true then opD P op T h n fun p h' n' => RunT P ops rest (putA T d p.val) h' n' (acc ++ [p]) K else RunT P ops rest (putA T d undef) h n (acc ++ [⟨undef, [], n, n, [], false⟩]) K) := propext Iff.rfl
theorem opS_call {P : Program} {T : TEnv} {h : Heap} {n : Nat} {k : Value → Heap → Nat → Prop} {f : Operand} {args : List Operand} {tys : Array TypeId} : (opS P (.call ⟨.value f, ⟨args⟩, tys⟩) T h n k) = (obind (calleeS T f args) fun gv => SpecH P gv.1 gv.2 h n k ⟨⟩) := propext Iff.rfl
theorem opD_call {P : Program} {T : TEnv} {h : Heap} {n : Nat} {k : PE → Heap → Nat → Prop} {f : Operand} {args : List Operand} {tys : Array TypeId} : (opD P (.call ⟨.value f, ⟨args⟩, tys⟩) T h n k) = (obind (calleeS T f args) fun gv => callD P gv.1 gv.2 h n k ⟨⟩) := propext Iff.rfl
theorem opS_move {P : Program} {T : TEnv} {h : Heap} {n : Nat} {k : Value → Heap → Nat → Prop} {x : Operand} : (opS P (.move x) T h n k) = (obind (ev T x) fun v => k v h n) := propext Iff.rfl
theorem opD_move {P : Program} {T : TEnv} {h : Heap} {n : Nat} {k : PE → Heap → Nat → Prop} {x : Operand} : (opD P (.move x) T h n k) = (obind (ev T x) fun v => k ⟨v, [], n, n, [], false⟩ h n) := propext Iff.rfl
theorem opS_assign {P : Program} {T : TEnv} {h : Heap} {n : Nat} {k : Value → Heap → Nat → Prop} {x : Operand} : (opS P (.assign x) T h n k) = (obind (ev T x) fun v => k v h n) := propext Iff.rfl
theorem opD_assign {P : Program} {T : TEnv} {h : Heap} {n : Nat} {k : PE → Heap → Nat → Prop} {x : Operand} : (opD P (.assign x) T h n k) = (obind (ev T x) fun v => k ⟨v, [], n, n, [], false⟩ h n) := propext Iff.rfl
theorem opS_pick {P : Program} {T : TEnv} {h : Heap} {n : Nat} {k : Value → Heap → Nat → Prop} {c a b : Operand} : (opS P (.pick c a b) T h n k) = (obind (pickA (ev T c) (ev T a) (ev T b)) fun v => k v h n) := propext Iff.rfl
theorem opD_pick {P : Program} {T : TEnv} {h : Heap} {n : Nat} {k : PE → Heap → Nat → Prop} {c a b : Operand} : (opD P (.pick c a b) T h n k) = (obind (pickA (ev T c) (ev T a) (ev T b)) fun v => k ⟨v, [], n, n, [], false⟩ h n) := propext Iff.rfl
theorem opS_nilCheck {P : Program} {T : TEnv} {h : Heap} {n : Nat} {k : Value → Heap → Nat → Prop} {x : Operand} : (opS P (.nilCheck x) T h n k) = (obind (nilCheckA (ev T x)) fun v => k v h n) := propext Iff.rfl
theorem opD_nilCheck {P : Program} {T : TEnv} {h : Heap} {n : Nat} {k : PE → Heap → Nat → Prop} {x : Operand} : (opD P (.nilCheck x) T h n k) = (obind (nilCheckA (ev T x)) fun v => k ⟨v, [], n, n, [], false⟩ h n) := propext Iff.rfl
theorem opS_fieldAddr {P : Program} {T : TEnv} {h : Heap} {n : Nat} {k : Value → Heap → Nat → Prop} {s : TypeId} {x : Operand} {f : Nat} : (opS P (.fieldAddr s x f) T h n k) = (obind (fieldAddrA P s (ev T x) f) fun v => k v h n) := propext Iff.rfl
theorem opD_fieldAddr {P : Program} {T : TEnv} {h : Heap} {n : Nat} {k : PE → Heap → Nat → Prop} {s : TypeId} {x : Operand} {f : Nat} : (opD P (.fieldAddr s x f) T h n k) = (obind (fieldAddrA P s (ev T x) f) fun v => k ⟨v, [], n, n, [], false⟩ h n) := propext Iff.rfl
theorem opS_indexAddr {P : Program} {T : TEnv} {h : Heap} {n : Nat} {k : Value → Heap → Nat → Prop} {t : TypeId} {x ix : Operand} : (opS P (.indexAddr t x ix) T h n k) = (obind (indexAddrA P t (ev T x) (ev T ix)) fun v => k v h n) := propext Iff.rfl
theorem opD_indexAddr {P : Program} {T : TEnv} {h : Heap} {n : Nat} {k : PE → Heap → Nat → Prop} {t : TypeId} {x ix : Operand} : (opD P (.indexAddr t x ix) T h n k) = (obind (indexAddrA P t (ev T x) (ev T ix)) fun v => k ⟨v, [], n, n, [], false⟩ h n) := propext Iff.rfl
theorem opS_load {P : Program} {T : TEnv} {h : Heap} {n : Nat} {k : Value → Heap → Nat → Prop} {t : TypeId} {x : Operand} : (opS P (.load t x) T h n k) = (obind (loadO P h t (ev T x)) fun v => k v h n) := propext Iff.rfl
theorem opD_load {P : Program} {T : TEnv} {h : Heap} {n : Nat} {k : PE → Heap → Nat → Prop} {t : TypeId} {x : Operand} : (opD P (.load t x) T h n k) = (obind (loadO P h t (ev T x)) fun v => k ⟨v, [], n, n, (labOf (ev T x)), false⟩ h n) := propext Iff.rfl
theorem opS_store {P : Program} {T : TEnv} {h : Heap} {n : Nat} {k : Value → Heap → Nat → Prop} {t : TypeId} {x y : Operand} : (opS P (.store t x y) T h n k) = (obind (storeO P h t (ev T x) (ev T y)) fun e => k undef (upd h e.1 e.2) (allocs n (some e))) := propext Iff.rfl
theorem opD_store {P : Program} {T : TEnv} {h : Heap} {n : Nat} {k : PE → Heap → Nat → Prop} {t : TypeId} {x y : Operand} : (opD P (.store t x y) T h n k) = (obind (storeO P h t (ev T x) (ev T y)) fun e => k ⟨undef, [e], n, allocs n (some e), (labOf (ev T x)), false⟩ (upd h e.1 e.2) (allocs n (some e))) := propext Iff.rfl
theorem opS_alloc {P : Program} {T : TEnv} {h : Heap} {n : Nat} {k : Value → Heap → Nat → Prop} {e : TypeId} : (opS P (.alloc e) T h n k) = (obind (allocO P e) fun z => k (.pointer (some ⟨n, 0, none⟩)) (upd h n (newA e z)) (n + 1)) := obind_ext (e := ⟨⟩) (e' := ⟨⟩) fun _ => by simp [eff, allocs]
theorem opD_alloc {P : Program} {T : TEnv} {h : Heap} {n : Nat} {k : PE → Heap → Nat → Prop} {e : TypeId} : (opD P (.alloc e) T h n k) = (obind (allocO P e) fun z => k ⟨.pointer (some ⟨n, 0, none⟩), [(n, newA e z)], n, n + 1, [], false⟩ (upd h n (newA e z)) (n + 1)) := obind_ext (e := ⟨⟩) (e' := ⟨⟩) fun _ => by simp [eff, allocs, readsS]
theorem opS_box {P : Program} {T : TEnv} {h : Heap} {n : Nat} {k : Value → Heap → Nat → Prop} {e : TypeId} {x : Operand} : (opS P (.box e x) T h n k) = (obind (boxO (ev T x)) fun v => k (.pointer (some ⟨n, 0, none⟩)) (upd h n (newA e v)) (n + 1)) := obind_ext (e := ⟨⟩) (e' := ⟨⟩) fun _ => by simp [eff, allocs]
theorem opD_box {P : Program} {T : TEnv} {h : Heap} {n : Nat} {k : PE → Heap → Nat → Prop} {e : TypeId} {x : Operand} : (opD P (.box e x) T h n k) = (obind (boxO (ev T x)) fun v => k ⟨.pointer (some ⟨n, 0, none⟩), [(n, newA e v)], n, n + 1, [], false⟩ (upd h n (newA e v)) (n + 1)) := obind_ext (e := ⟨⟩) (e' := ⟨⟩) fun _ => by simp [eff, allocs, readsS]
theorem opS_build {P : Program} {T : TEnv} {h : Heap} {n : Nat} {k : Value → Heap → Nat → Prop} {t : TypeId} {ps : List (Nat × Operand)} : (opS P (.build t ⟨ps⟩) T h n k) = (obind (buildV P t (evParts T ps)) fun v => k v h n) := propext Iff.rfl
theorem opD_build {P : Program} {T : TEnv} {h : Heap} {n : Nat} {k : PE → Heap → Nat → Prop} {t : TypeId} {ps : List (Nat × Operand)} : (opD P (.build t ⟨ps⟩) T h n k) = (obind (buildV P t (evParts T ps)) fun v => k ⟨v, [], n, n, [], false⟩ h n) := propext Iff.rfl
theorem opS_buildSlice {P : Program} {T : TEnv} {h : Heap} {n : Nat} {k : Value → Heap → Nat → Prop} {t : TypeId} {len : Nat} {ps : List (Nat × Operand)} : (opS P (.buildSlice t len ⟨ps⟩) T h n k) = (obind (buildSliceV P t len (evParts T ps) n) fun r => k r.1 (upd h n r.2) (n + 1)) := obind_ext (e := ⟨⟩) (e' := ⟨⟩) fun _ => by simp [eff, allocs]
theorem opD_buildSlice {P : Program} {T : TEnv} {h : Heap} {n : Nat} {k : PE → Heap → Nat → Prop} {t : TypeId} {len : Nat} {ps : List (Nat × Operand)} : (opD P (.buildSlice t len ⟨ps⟩) T h n k) = (obind (buildSliceV P t len (evParts T ps) n) fun r => k ⟨r.1, [(n, r.2)], n, n + 1, [], false⟩ (upd h n r.2) (n + 1)) := obind_ext (e := ⟨⟩) (e' := ⟨⟩) fun _ => by simp [eff, allocs, readsS]
theorem opS_field {P : Program} {T : TEnv} {h : Heap} {n : Nat} {k : Value → Heap → Nat → Prop} {t : TypeId} {x : Operand} {f : Nat} : (opS P (.field t x f) T h n k) = (obind (ev T x) fun v => obind (fieldA P t v f) fun v => k v h n) := propext Iff.rfl
theorem opD_field {P : Program} {T : TEnv} {h : Heap} {n : Nat} {k : PE → Heap → Nat → Prop} {t : TypeId} {x : Operand} {f : Nat} : (opD P (.field t x f) T h n k) = (obind (ev T x) fun v => obind (fieldA P t v f) fun v => k ⟨v, [], n, n, [], false⟩ h n) := propext Iff.rfl
theorem opS_extract {P : Program} {T : TEnv} {h : Heap} {n : Nat} {k : Value → Heap → Nat → Prop} {x : Operand} {i : Nat} : (opS P (.extract x i) T h n k) = (obind (ev T x) fun v => obind (extractA v i) fun v => k v h n) := propext Iff.rfl
theorem opD_extract {P : Program} {T : TEnv} {h : Heap} {n : Nat} {k : PE → Heap → Nat → Prop} {x : Operand} {i : Nat} : (opD P (.extract x i) T h n k) = (obind (ev T x) fun v => obind (extractA v i) fun v => k ⟨v, [], n, n, [], false⟩ h n) := propext Iff.rfl
theorem opS_makeFunc {P : Program} {T : TEnv} {h : Heap} {n : Nat} {k : Value → Heap → Nat → Prop} {fn : Fn} {first captured : Array Operand} : (opS P (.makeFunc fn first captured) T h n k) = (obind (makeFuncA fn first T captured) fun v => k v h n) := propext Iff.rfl
theorem opD_makeFunc {P : Program} {T : TEnv} {h : Heap} {n : Nat} {k : PE → Heap → Nat → Prop} {fn : Fn} {first captured : Array Operand} : (opD P (.makeFunc fn first captured) T h n k) = (obind (makeFuncA fn first T captured) fun v => k ⟨v, [], n, n, [], false⟩ h n) := propext Iff.rfl
theorem opS_slice {P : Program} {T : TEnv} {h : Heap} {n : Nat} {k : Value → Heap → Nat → Prop} {t : TypeId} {x : Operand} {lo hi : Option Operand} : (opS P (.slice t x lo hi none) T h n k) = (obind (sliceO P t (ev T x) (evOpt T lo) (evOpt T hi)) fun v => k v h n) := propext Iff.rfl
theorem opD_slice {P : Program} {T : TEnv} {h : Heap} {n : Nat} {k : PE → Heap → Nat → Prop} {t : TypeId} {x : Operand} {lo hi : Option Operand} : (opD P (.slice t x lo hi none) T h n k) = (obind (sliceO P t (ev T x) (evOpt T lo) (evOpt T hi)) fun v => k ⟨v, [], n, n, [], false⟩ h n) := propext Iff.rfl
theorem opS_binOp {P : Program} {T : TEnv} {h : Heap} {n : Nat} {k : Value → Heap → Nat → Prop} {op : BinOp} {t t' : TypeId} {x y : Operand} : (opS P (.binOp op t x y t') T h n k) = (obind (binF P op t (ev T x) (ev T y)) fun v => k v h n) := propext Iff.rfl
theorem opD_binOp {P : Program} {T : TEnv} {h : Heap} {n : Nat} {k : PE → Heap → Nat → Prop} {op : BinOp} {t t' : TypeId} {x y : Operand} : (opD P (.binOp op t x y t') T h n k) = (obind (binF P op t (ev T x) (ev T y)) fun v => k ⟨v, [], n, n, [], false⟩ h n) := propext Iff.rfl
theorem opS_unOp {P : Program} {T : TEnv} {h : Heap} {n : Nat} {k : Value → Heap → Nat → Prop} {op : UnOp} {t : TypeId} {x : Operand} : (opS P (.unOp op t x) T h n k) = (obind (unF op (ev T x)) fun v => k v h n) := propext Iff.rfl
theorem opD_unOp {P : Program} {T : TEnv} {h : Heap} {n : Nat} {k : PE → Heap → Nat → Prop} {op : UnOp} {t : TypeId} {x : Operand} : (opD P (.unOp op t x) T h n k) = (obind (unF op (ev T x)) fun v => k ⟨v, [], n, n, [], false⟩ h n) := propext Iff.rfl
theorem opS_convert {P : Program} {T : TEnv} {h : Heap} {n : Nat} {k : Value → Heap → Nat → Prop} {s d : TypeId} {x : Operand} : (opS P (.convert s d x) T h n k) = (obind (convF P h s d (ev T x)) fun v => k v h n) := propext Iff.rfl
theorem opD_convert {P : Program} {T : TEnv} {h : Heap} {n : Nat} {k : PE → Heap → Nat → Prop} {s d : TypeId} {x : Operand} : (opD P (.convert s d x) T h n k) = (obind (convF P h s d (ev T x)) fun v => k ⟨v, [], n, n, (labOf (ev T x)), false⟩ h n) := propext Iff.rfl
theorem opS_index {P : Program} {T : TEnv} {h : Heap} {n : Nat} {k : Value → Heap → Nat → Prop} {t : TypeId} {x i : Operand} : (opS P (.index t x i) T h n k) = (obind (indexO P t (ev T x) (ev T i)) fun v => k v h n) := propext Iff.rfl
theorem opD_index {P : Program} {T : TEnv} {h : Heap} {n : Nat} {k : PE → Heap → Nat → Prop} {t : TypeId} {x i : Operand} : (opD P (.index t x i) T h n k) = (obind (indexO P t (ev T x) (ev T i)) fun v => k ⟨v, [], n, n, [], false⟩ h n) := propext Iff.rfl
theorem opS_len {P : Program} {T : TEnv} {h : Heap} {n : Nat} {k : Value → Heap → Nat → Prop} {x : Operand} {t : TypeId} : (opS P (.call ⟨.builtin .len, ⟨[x]⟩, ⟨[t]⟩⟩) T h n k) = (obind (lenO P t (ev T x)) fun v => k v h n) := propext Iff.rfl
theorem opD_len {P : Program} {T : TEnv} {h : Heap} {n : Nat} {k : PE → Heap → Nat → Prop} {x : Operand} {t : TypeId} : (opD P (.call ⟨.builtin .len, ⟨[x]⟩, ⟨[t]⟩⟩) T h n k) = (obind (lenO P t (ev T x)) fun v => k ⟨v, [], n, n, [], false⟩ h n) := propext Iff.rfl
theorem opS_append {P : Program} {T : TEnv} {h : Heap} {n : Nat} {k : Value → Heap → Nat → Prop} {s x : Operand} {t t' : TypeId} : (opS P (.call ⟨.builtin .append, ⟨[s, x]⟩, ⟨[t, t']⟩⟩) T h n k) = (if t = t' then obind (ev T s) fun s => obind (ev T x) fun x => obind (appendA P h t s x n) fun r => k r.1 (eff h r.2) (allocs n r.2) else obind (ev T s) fun s => obind (ev T x) fun x => obind (appendS P h t t' s x n) fun r => k r.1 (eff h r.2) (allocs n r.2)) := propext Iff.rfl
theorem opD_append {P : Program} {T : TEnv} {h : Heap} {n : Nat} {k : PE → Heap → Nat → Prop} {s x : Operand} {t t' : TypeId} : (opD P (.call ⟨.builtin .append, ⟨[s, x]⟩, ⟨[t, t']⟩⟩) T h n k) = (if t = t' then obind (ev T s) fun sv => obind (ev T x) fun xv => obind (appendA P h t sv xv n) fun r => k ⟨r.1, r.2.toList, n, allocs n r.2, (labOf (ev T s) ++ (labOf (ev T x) ++ [])), false⟩ (eff h r.2) (allocs n r.2) else obind (ev T s) fun sv => obind (ev T x) fun xv => obind (appendS P h t t' sv xv n) fun r => k ⟨r.1, r.2.toList, n, allocs n r.2, (labOf (ev T s) ++ (labOf (ev T x) ++ [])), false⟩ (eff h r.2) (allocs n r.2)) := propext Iff.rfl
theorem opS_makeSlice {P : Program} {T : TEnv} {h : Heap} {n : Nat} {k : Value → Heap → Nat → Prop} {t : TypeId} {l c : Operand} : (opS P (.makeSlice t l c) T h n k) = (obind (ev T l) fun l => obind (ev T c) fun c => obind (makeX P t l c n) fun r => k r.1 (eff h r.2) (allocs n r.2)) := propext Iff.rfl
theorem opD_makeSlice {P : Program} {T : TEnv} {h : Heap} {n : Nat} {k : PE → Heap → Nat → Prop} {t : TypeId} {l c : Operand} : (opD P (.makeSlice t l c) T h n k) = (obind (ev T l) fun l => obind (ev T c) fun c => obind (makeX P t l c n) fun r => k ⟨r.1, r.2.toList, n, allocs n r.2, [], false⟩ (eff h r.2) (allocs n r.2)) := propext Iff.rfl
theorem opS_makeInterface {P : Program} {T : TEnv} {h : Heap} {n : Nat} {k : Value → Heap → Nat → Prop} {t : TypeId} {x : Operand} : (opS P (.makeInterface t x) T h n k) = (obind (ifaceO P t (ev T x)) fun v => k v h n) := propext Iff.rfl
theorem opD_makeInterface {P : Program} {T : TEnv} {h : Heap} {n : Nat} {k : PE → Heap → Nat → Prop} {t : TypeId} {x : Operand} : (opD P (.makeInterface t x) T h n k) = (obind (ifaceO P t (ev T x)) fun v => k ⟨v, [], n, n, [], false⟩ h n) := propext Iff.rfl
theorem opS_copy {P : Program} {T : TEnv} {h : Heap} {n : Nat} {k : Value → Heap → Nat → Prop} {d x : Operand} {t t' : TypeId} : (opS P (.call ⟨.builtin .copy, ⟨[d, x]⟩, ⟨[t, t']⟩⟩) T h n k) = (obind (ev T d) fun dv => obind (ev T x) fun xv => obind (copyX P h t dv xv) fun r => k r.1 (eff h r.2) (allocs n r.2)) := propext Iff.rfl
theorem opD_copy {P : Program} {T : TEnv} {h : Heap} {n : Nat} {k : PE → Heap → Nat → Prop} {d x : Operand} {t t' : TypeId} : (opD P (.call ⟨.builtin .copy, ⟨[d, x]⟩, ⟨[t, t']⟩⟩) T h n k) = (obind (ev T d) fun dv => obind (ev T x) fun xv => obind (copyX P h t dv xv) fun r => k ⟨r.1, r.2.toList, n, allocs n r.2, (labOf (ev T d) ++ (labOf (ev T x) ++ [])), false⟩ (eff h r.2) (allocs n r.2)) := propext Iff.rfl
theorem opS_data {P : Program} {T : TEnv} {h : Heap} {n : Nat} {k : Value → Heap → Nat → Prop} {x : Operand} {t : TypeId} : (opS P (.call ⟨.builtin .unsafeSliceData, ⟨[x]⟩, ⟨[t]⟩⟩) T h n k) = (obind (ev T x) fun xv => obind (dataX xv) fun v => k v h n) := propext Iff.rfl
theorem opD_data {P : Program} {T : TEnv} {h : Heap} {n : Nat} {k : PE → Heap → Nat → Prop} {x : Operand} {t : TypeId} : (opD P (.call ⟨.builtin .unsafeSliceData, ⟨[x]⟩, ⟨[t]⟩⟩) T h n k) = (obind (ev T x) fun xv => obind (dataX xv) fun v => k ⟨v, [], n, n, [], false⟩ h n) := propext Iff.rfl
theorem opS_string {P : Program} {T : TEnv} {h : Heap} {n : Nat} {k : Value → Heap → Nat → Prop} {p l : Operand} {t t' : TypeId} : (opS P (.call ⟨.builtin .unsafeString, ⟨[p, l]⟩, ⟨[t, t']⟩⟩) T h n k) = (obind (ev T p) fun pv => obind (ev T l) fun lv => obind (stringX P h t pv lv) fun r => k r.1 (eff h r.2) (allocs n r.2)) := propext Iff.rfl
theorem opD_string {P : Program} {T : TEnv} {h : Heap} {n : Nat} {k : PE → Heap → Nat → Prop} {p l : Operand} {t t' : TypeId} : (opD P (.call ⟨.builtin .unsafeString, ⟨[p, l]⟩, ⟨[t, t']⟩⟩) T h n k) = (obind (ev T p) fun pv => obind (ev T l) fun lv => obind (stringX P h t pv lv) fun r => k ⟨r.1, r.2.toList, n, allocs n r.2, (labOf (ev T p) ++ (labOf (ev T l) ++ [])), false⟩ (eff h r.2) (allocs n r.2)) := propext Iff.rfl
theorem opS_cap {P : Program} {T : TEnv} {h : Heap} {n : Nat} {k : Value → Heap → Nat → Prop} {x : Operand} {t : TypeId} : (opS P (.call ⟨.builtin .cap, ⟨[x]⟩, ⟨[t]⟩⟩) T h n k) = (obind (ev T x) fun xv => obind (capX P t xv) fun v => k v h n) := propext Iff.rfl
theorem opD_cap {P : Program} {T : TEnv} {h : Heap} {n : Nat} {k : PE → Heap → Nat → Prop} {x : Operand} {t : TypeId} : (opD P (.call ⟨.builtin .cap, ⟨[x]⟩, ⟨[t]⟩⟩) T h n k) = (obind (ev T x) fun xv => obind (capX P t xv) fun v => k ⟨v, [], n, n, [], false⟩ h n) := propext Iff.rfl
theorem opS_max {P : Program} {T : TEnv} {h : Heap} {n : Nat} {k : Value → Heap → Nat → Prop} {x : Operand} {xs : List Operand} {tys : Array TypeId} : (opS P (.call ⟨.builtin .max, ⟨x :: xs⟩, tys⟩) T h n k) = (obind (mxF true (ev T x) (evAll T xs)) fun v => k v h n) := propext Iff.rfl
theorem opD_max {P : Program} {T : TEnv} {h : Heap} {n : Nat} {k : PE → Heap → Nat → Prop} {x : Operand} {xs : List Operand} {tys : Array TypeId} : (opD P (.call ⟨.builtin .max, ⟨x :: xs⟩, tys⟩) T h n k) = (obind (mxF true (ev T x) (evAll T xs)) fun v => k ⟨v, [], n, n, [], false⟩ h n) := propext Iff.rfl
theorem opS_min {P : Program} {T : TEnv} {h : Heap} {n : Nat} {k : Value → Heap → Nat → Prop} {x : Operand} {xs : List Operand} {tys : Array TypeId} : (opS P (.call ⟨.builtin .min, ⟨x :: xs⟩, tys⟩) T h n k) = (obind (mxF false (ev T x) (evAll T xs)) fun v => k v h n) := propext Iff.rfl
theorem opD_min {P : Program} {T : TEnv} {h : Heap} {n : Nat} {k : PE → Heap → Nat → Prop} {x : Operand} {xs : List Operand} {tys : Array TypeId} : (opD P (.call ⟨.builtin .min, ⟨x :: xs⟩, tys⟩) T h n k) = (obind (mxF false (ev T x) (evAll T xs)) fun v => k ⟨v, [], n, n, [], false⟩ h n) := propext Iff.rfl
/-! ### Control -/
def SatH (P : Program) (N : Nat) (c : Code) (T : TEnv) (h : Heap) (n : Nat) (Q : Exit → TEnv → Heap → Nat → Prop) (_ : Hide (c, Q)) : Prop := Sat P N c T h n Q
def thenH (P : Program) (N : Nat) (y : Code) (Q : Exit → TEnv → Heap → Nat → Prop) : Exit → TEnv → Heap → Nat → Prop
  | .normal, T, h, n => SatH P N y T h n Q ⟨⟩
  | e, T, h, n => Q e T h n
theorem thenH_normal {P : Program} {N : Nat} {y : Code} {Q : Exit → TEnv → Heap → Nat → Prop} {T : TEnv} {h : Heap} {n : Nat} : thenH P N y Q .normal T h n = SatH P N y T h n Q ⟨⟩ := propext Iff.rfl
theorem thenH_ret {P : Program} {N : Nat} {y : Code} {Q : Exit → TEnv → Heap → Nat → Prop} {T : TEnv} {h : Heap} {n : Nat} : thenH P N y Q .ret T h n = Q .ret T h n := propext Iff.rfl
theorem thenH_exit {P : Program} {N : Nat} {y : Code} {Q : Exit → TEnv → Heap → Nat → Prop} {T : TEnv} {h : Heap} {n i : Nat} : thenH P N y Q (.exit i) T h n = Q (.exit i) T h n := propext Iff.rfl
theorem blockA_normal {i : Nat} {Q : Exit → TEnv → Heap → Nat → Prop} {T : TEnv} {h : Heap} {n : Nat} : blockA i Q .normal T h n = Q .normal T h n := propext Iff.rfl
theorem blockA_ret {i : Nat} {Q : Exit → TEnv → Heap → Nat → Prop} {T : TEnv} {h : Heap} {n : Nat} : blockA i Q .ret T h n = Q .ret T h n := propext Iff.rfl
theorem blockA_exit {i j : Nat} {Q : Exit → TEnv → Heap → Nat → Prop} {T : TEnv} {h : Heap} {n : Nat} : blockA i Q (.exit j) T h n = if j = i then Q .normal T h n else Q (.exit j) T h n := propext Iff.rfl
theorem thenA_normal {K : TEnv → Heap → Nat → Prop} {Q : Exit → TEnv → Heap → Nat → Prop} {T : TEnv} {h : Heap} {n : Nat} : thenA K Q .normal T h n = K T h n := propext Iff.rfl
theorem thenA_ret {K : TEnv → Heap → Nat → Prop} {Q : Exit → TEnv → Heap → Nat → Prop} {T : TEnv} {h : Heap} {n : Nat} : thenA K Q .ret T h n = Q .ret T h n := propext Iff.rfl
theorem thenA_exit {K : TEnv → Heap → Nat → Prop} {Q : Exit → TEnv → Heap → Nat → Prop} {T : TEnv} {h : Heap} {n i : Nat} : thenA K Q (.exit i) T h n = Q (.exit i) T h n := propext Iff.rfl
theorem Sat.sq {P : Program} {N : Nat} {x y : Code} {T : TEnv} {h : Heap} {n : Nat} {Q : Exit → TEnv → Heap → Nat → Prop} (hx : Sat P N x T h n (thenH P N y Q)) : Sat P N (.seq x y) T h n Q :=
  Sat.seq (hx.mono fun e _ _ _ hh => by cases e <;> exact hh)
theorem Pure.useH {P : Program} {g : FuncId} {args : List Value} {r : Value} (hp : Pure P g args r) {h : Heap} {n : Nat} {Q : Value → Heap → Nat → Prop} (hq : Q r h n) : SpecH P g args h n Q ⟨⟩ := hp.use hq
theorem Spec.useH {P : Program} {g : FuncId} {args : List Value} {h : Heap} {n : Nat} {r : Value} {h1 : Heap} {n1 : Nat} (hp : Spec P g args h n fun r' h' n' => r' = r ∧ h' = h1 ∧ n' = n1) {Q : Value → Heap → Nat → Prop} (hq : Q r h1 n1) : SpecH P g args h n Q ⟨⟩ := hp.use hq
theorem Spec.onH {P : Program} {g : FuncId} {args : List Value} {h : Heap} {n : Nat} {Q0 Q : Value → Heap → Nat → Prop} (hp : Spec P g args h n Q0) (hq : ∀ r h' n', Q0 r h' n' → Q r h' n') : SpecH P g args h n Q ⟨⟩ := hp.mono hq
end Go.Dm
/- The abstract machine, part P: slices that are read, and slices that grow. -/
set_option linter.unusedSimpArgs false
set_option linter.unusedVariables false
namespace Go.Dm
open Go

/-- A slice of m elements of k cells that can be read. -/
def RS (h : Heap) (n : Nat) (k : Nat) (s : Value) (cells : List Value) (m : Nat) : Prop :=
  cells.length = m * k ∧ ∃ A c, s = .slice A m c ∧ (A = none → m = 0) ∧ (0 < m → ∃ a b, A = some a ∧ a.block < n ∧ h a.block = some b ∧ b.gen = gen a ∧ a.off + m * k ≤ b.cells.length ∧ (b.cells.drop a.off).take (m * k) = cells)
theorem RS.frame {h h' : Heap} {n n' k m : Nat} {s : Value} {cells : List Value} (hr : RS h n k s cells m) (hh : ∀ L, L < n → h' L = h L) (hn : n ≤ n') : RS h' n' k s cells m := by
  obtain ⟨h1, A, c, h2, h3, h4⟩ := hr
  refine ⟨h1, A, c, h2, h3, fun hm => ?_⟩
  obtain ⟨a, b, x1, x2, x3, x4⟩ := h4 hm
  exact ⟨a, b, x1, by omega, by rw [hh _ x2]; exact x3, x4⟩
/-- Where element i lies. -/
theorem RS.at {h : Heap} {n k m : Nat} {s : Value} {cells : List Value} (hr : RS h n k s cells m) {i : Nat} (hi : i < m) :
    ∃ a c b, s = .slice (some a) m c ∧ a.block < n ∧ h a.block = some b ∧ b.gen = gen a ∧ a.off + i * k + k ≤ b.cells.length ∧ (b.cells.drop (a.off + i * k)).take k = (cells.drop (i * k)).take k := by
  obtain ⟨h1, A, c, h2, h3, h4⟩ := hr
  obtain ⟨a, b, rfl, x2, x3, x4, x5, x6⟩ := h4 (by omega)
  have hle : i * k + k ≤ m * k := by
    have := Nat.mul_le_mul_right k (show i + 1 ≤ m by omega)
    rw [Nat.add_mul] at this; omega
  refine ⟨a, c, b, h2, x2, x3, x4, by omega, ?_⟩
  rw [← x6, List.drop_take, List.take_take, List.drop_drop, Nat.min_eq_left (by omega)]
theorem RS.len {h : Heap} {n k m : Nat} {s : Value} {cells : List Value} (hr : RS h n k s cells m) : ∃ A c, s = .slice A m c := by
  obtain ⟨_, A, c, h2, _⟩ := hr; exact ⟨A, c, h2⟩
/-- A slice that only this run holds, ready to grow; its label lies from lo on, below hi. -/
def GS (h : Heap) (e : TypeId) (k : Nat) (s : Value) (cells : List Value) (m lo hi : Nat) : Prop :=
  (m = 0 ∧ cells = [] ∧ s = .slice none 0 0) ∨ (0 < m ∧ ∃ L sp, s = .slice (some ⟨L, 0, sp⟩) m (k + 2) ∧ h L = some ⟨cells, e, sp.getD 0, true⟩ ∧ cells.length = m * k ∧ lo ≤ L ∧ L < hi)
theorem GS.nil {h : Heap} {e : TypeId} {k lo hi : Nat} : GS h e k (.slice none 0 0) [] 0 lo hi := .inl ⟨rfl, rfl, rfl⟩
theorem GS.frame {h h' : Heap} {e : TypeId} {k m lo hi hi' : Nat} {s : Value} {cells : List Value} (hg : GS h e k s cells m lo hi) (hh : ∀ L, lo ≤ L → L < hi → h' L = h L) (hn : hi ≤ hi') : GS h' e k s cells m lo hi' := by
  rcases hg with hg | ⟨h1, L, sp, h2, h3, h4, h5, h6⟩
  · exact .inl hg
  · exact .inr ⟨h1, L, sp, h2, by rw [hh _ h5 h6]; exact h3, h4, h5, by omega⟩
theorem GS.lo {h : Heap} {e : TypeId} {k m lo lo' hi : Nat} {s : Value} {cells : List Value} (hg : GS h e k s cells m lo hi) (hn : lo' ≤ lo) : GS h e k s cells m lo' hi := by
  rcases hg with hg | ⟨h1, L, sp, h2, h3, h4, h5, h6⟩
  · exact .inl hg
  · exact .inr ⟨h1, L, sp, h2, h3, h4, by omega, h6⟩
theorem GS.read {h : Heap} {e : TypeId} {k m lo hi n : Nat} {s : Value} {cells : List Value} (hg : GS h e k s cells m lo hi) (hn : hi ≤ n) : RS h n k s cells m := by
  rcases hg with ⟨rfl, rfl, rfl⟩ | ⟨h1, L, sp, h2, h3, h4, h5, h6⟩
  · exact ⟨by simp, none, 0, rfl, fun _ => rfl, fun h => absurd h (by omega)⟩
  · exact ⟨h4, some ⟨L, 0, sp⟩, k + 2, h2, (fun h => nomatch h), fun _ => ⟨⟨L, 0, sp⟩, _, rfl, by simp only; omega, h3, rfl, by simp [h4], by simp [← h4]⟩⟩
theorem GS.val {h : Heap} {e : TypeId} {k m lo hi : Nat} {s : Value} {cells : List Value} (hg : GS h e k s cells m lo hi) : ∃ A c, s = .slice A m c := by
  rcases hg with ⟨rfl, rfl, rfl⟩ | ⟨h1, L, sp, h2, _⟩
  · exact ⟨_, _, rfl⟩
  · exact ⟨_, _, h2⟩
theorem GS.append {P : Program} {h : Heap} {t e : TypeId} {k by' m lo hi L B : Nat} {s z : Value} {cells xs : List Value} {bo : Bool} (hg : GS h e k s cells m lo hi) (hu : P.underlying t = some (.slice e)) (hk : P.cellsOf e = k) (hb : P.bytesOf e = by') (hz : zeroOf P e = some z) (hzs : z.cells.size = k) (k0 : 0 < k) (b0 : 0 < by')
    (hB : h B = some ⟨xs, e, 0, bo⟩) (hx : xs.length = k) (hL : hi ≤ L) (hlo : lo ≤ L) (hroom : (m + 1) * by' ≤ 140737488355328) :
    ∃ s' E, appendA P h t s (.slice (some ⟨B, 0, none⟩) 1 1) L = some (s', E) ∧ (∀ L', (L' < lo ∨ L < L' ∨ hi ≤ L' ∧ L' ≠ L) → eff h E L' = h L') ∧ L ≤ allocs L E ∧ allocs L E ≤ L + 1 ∧ GS (eff h E) e k s' (cells ++ xs) (m + 1) lo (allocs L E) := by
  have hxs : sliceCells P h k (.slice (some ⟨B, 0, none⟩) 1 1) = some xs := by
    simp only [sliceCells, hB, gen]
    simp [hx]
    exact List.take_of_length_le (by omega)
  rcases hg with ⟨rfl, rfl, rfl⟩ | ⟨h1, L1, sp, rfl, h3, h4, h5, h6⟩
  · refine ⟨.slice (some ⟨L, 0, none⟩) 1 (k + 2), some (L, ⟨xs, e, 0, true⟩), ?_, ?_, ?_, ?_, ?_⟩
    · unfold appendA
      simp only [hu, hk, if_pos k0, if_neg (show ¬ (1 = 0) by omega), hxs, hz, hb]
      simp [sliceCells, hzs, b0]; omega
    · intro L' hL'; simp only [eff, upd_at]; rw [if_neg (by omega)]
    · simp [allocs]
    · simp [allocs]
    · exact .inr ⟨by omega, L, none, rfl, by simp [eff, upd_at], by simp [hx], hlo, by simp [allocs]⟩
  · have hos : sliceCells P h k (.slice (some ⟨L1, 0, sp⟩) m (k + 2)) = some cells := by
      obtain ⟨m, rfl⟩ : ∃ j, m = j + 1 := ⟨m - 1, by omega⟩
      simp only [sliceCells, h3, gen]
      simp [h4]
      rw [← h4]; exact List.take_length
    have hne : ¬ L1 = L := by omega
    refine ⟨.slice (some ⟨L1, 0, some (sp.getD 0 + 1)⟩) (m + 1) (k + 2), some (L1, ⟨cells ++ xs, e, sp.getD 0 + 1, true⟩), ?_, ?_, ?_, ?_, ?_⟩
    · unfold appendA
      simp only [hu, hk, if_pos k0, if_neg (show ¬ (1 = 0) by omega), hxs, hos, hz, hb]
      rw [if_pos ⟨hzs, b0, hroom⟩, if_neg (by simp <;> omega)]
      simp [h1, h3, h4]
    · intro L' hL'; simp only [eff, upd_at]; rw [if_neg (by omega)]
    · simp [allocs, hne]
    · simp [allocs, hne]
    · refine .inr ⟨by omega, L1, some (sp.getD 0 + 1), rfl, by simp [eff, upd_at], by simp [h4, hx, Nat.add_mul], h5, ?_⟩
      simp [allocs, hne]; omega
/-- Ways that meet again. -/
theorem Sat.join {P : Program} {N : Nat} {x y : Code} {T : TEnv} {h : Heap} {n : Nat} {Q : Exit → TEnv → Heap → Nat → Prop} (J : TEnv → Heap → Nat → Prop) (hx : Sat P N x T h n (thenA J Q)) (hj : ∀ T h n, J T h n → Sat P N y T h n Q) : Sat P N (.seq x y) T h n Q :=
  Sat.seq (hx.mono fun e T h n hh => by
    cases e with
    | normal => exact hj T h n hh
    | _ => exact hh)
end Go.Dm
/- The abstract machine, part Q: functions without a body, results in normal form, slices that nobody changes. -/
set_option linter.unusedSimpArgs false
set_option linter.unusedVariables false
namespace Go.Dm
open Go

/-- A function that the model does at once. -/
theorem Pure.extern {P : Program} {g : FuncId} {fn : Func} {e : Array Value → Sem Value} (hf : P.funcs[g]? = some fn) (hname : (fn.name == "runtime.NumGoroutine") = false)
    (hb : fn.body.isNone = true) (hn : Extern.findNext fn = none) (he : Extern.find fn = some e) {args : List Value} {r : Value} (ha : args.all closed3 = true) (hr : closed3 r = true) (hrun : ∀ w, (e args.toArray).run P w = .ok r w) : Pure P g args r :=
  fun h n => ⟨fun m w args' hargs H hd => .inr ⟨r, w, by
    have : args' = args := hargs.eq_closed (fun _ _ => VR3.eq) ha
    subst this
    rw [run_callFunc_extern hf hname hb hn he, hrun]; rfl, r, r, h, n, m, rfl, VR3.refl hr, H, hd, Mv.refl h m w n, rfl, rfl, rfl⟩⟩
theorem HRel.lt {h : Heap} {m : LMap} {w : World} (H : HRel h m w) {n : Nat} (hd : ∀ L g p, m L g = some p → L < n) {L : Nat} {b : Blk} (hb : h L = some b) : L < n := by
  obtain ⟨k, o, r, _, _, h6, _⟩ := H.blk L b hb
  exact hd _ _ _ h6
/-- What is there is known to be below the next label. -/
theorem Spec.lt {P : Program} {g : FuncId} {args : List Value} {h : Heap} {n : Nat} {Q : Value → Heap → Nat → Prop} (hs : (∀ L b, h L = some b → L < n) → Spec P g args h n Q) : Spec P g args h n Q :=
  ⟨fun m w args' ha H hd => (hs fun L b hb => H.lt hd hb).run m w args' ha H hd⟩
theorem Sat.lt {P : Program} {N : Nat} {c : Code} {T : TEnv} {h : Heap} {n : Nat} {Q : Exit → TEnv → Heap → Nat → Prop} (hs : (∀ L b, h L = some b → L < n) → Sat P N c T h n Q) : Sat P N c T h n Q :=
  fun m a w hr => (hs fun L b hb => hr.heap.lt hr.dom hb) m a w hr
/-! ### Blocks that nobody changes any more -/
theorem HRel.freeze {h : Heap} {m : LMap} {w : World} (H : HRel h m w) {L : Nat} {b : Blk} (hb : h L = some b) : HRel (upd h L { b with own := false }) m w where
  blk L' b' hL' := by
    rw [upd_at] at hL'
    split at hL'
    · rename_i e; subst e; cases hL'
      obtain ⟨k, o, r, c, fr, h1, h2, h3, h4, h5, h6⟩ := H.blk L' b hb
      exact ⟨k, o, r, c, fr, h1, h2, (fun h => by cases h), h4, h5, h6⟩
    · exact H.blk L' b' hL'
  sep L1 L2 b1 b2 k1 o1 r1 k2 o2 r2 hne h1 h2 ho hm1 hm2 := by
    rw [upd_at] at h1 h2
    split at h1
    · cases h1; cases ho
    · split at h2
      · rename_i e; subst e; cases h2; exact H.sep L1 L2 b1 b k1 o1 r1 k2 o2 r2 hne h1 hb ho hm1 hm2
      · exact H.sep L1 L2 b1 b2 k1 o1 r1 k2 o2 r2 hne h1 h2 ho hm1 hm2
  inb := H.inb
  gens L' b' g p hL' hp := by
    rw [upd_at] at hL'
    split at hL'
    · rename_i e; subst e; cases hL'; exact H.gens L' b g p hb hp
    · exact H.gens L' b' g p hL' hp
  gl := H.gl
  gh g x hx := by
    rw [upd_at]
    split
    · rename_i e; subst e
      have := H.gh g x hx
      rw [hb] at this; cases this
      have ho := GH_own hx
      cases b; simp only at ho; subst ho; rfl
    · exact H.gh g x hx
theorem Mv.freeze {h : Heap} {m : LMap} {w : World} {n : Nat} {L : Nat} {b : Blk} (hb : h L = some b) : Mv h m w n (upd h L { b with own := false }) m w n where
  step := ⟨m.le_refl, rfl, rfl, rfl, Nat.le_refl _, fun _ _ _ => rfl, fun L' b' k o r hL' ho hm _ => by
    rw [upd_at] at hL'
    split at hL'
    · cases hL'; cases ho
    · exact ⟨L', b', o, r, hL', ho, hm⟩⟩
  le := Nat.le_refl n
  lab _ _ _ x := .inl ⟨_, _, x⟩
theorem Sat.freeze {P : Program} {N : Nat} {c : Code} {T : TEnv} {h : Heap} {n : Nat} {Q : Exit → TEnv → Heap → Nat → Prop} (L : Nat) {b : Blk} (hb : h L = some b) (hs : Sat P N c T (upd h L { b with own := false }) n Q) : Sat P N c T h n Q :=
  fun m a w hr => Code.wp_mono (fun _ _ _ hh => hh.mono (Mv.freeze hb) fun _ _ _ _ x => x) (hs m a w ⟨hr.heap.freeze hb, hr.tmps, hr.defers, hr.size, hr.dom⟩)
theorem Spec.freeze {P : Program} {g : FuncId} {args : List Value} {h : Heap} {n : Nat} {Q : Value → Heap → Nat → Prop} (L : Nat) {b : Blk} (hb : h L = some b) (hs : Spec P g args (upd h L { b with own := false }) n Q) : Spec P g args h n Q :=
  ⟨fun m w args' ha H hd => (hs.run m w args' ha (H.freeze hb) hd).mono fun e w' ⟨r, r', h', n', m', h1, h2, h3, h4, h5, h6⟩ => ⟨r, r', h', n', m', h1, h2, h3, h4, (Mv.freeze hb).trans h5, h6⟩⟩
/-- A contract whose heap is frozen at one place behind it. -/
theorem Spec.after {P : Program} {g : FuncId} {args : List Value} {h : Heap} {n : Nat} {Q Q' : Value → Heap → Nat → Prop} (hs : Spec P g args h n Q) (hq : ∀ r h' n', Q r h' n' → Q' r h' n' ∨ ∃ L b, h' L = some b ∧ Q' r (upd h' L { b with own := false }) n') : Spec P g args h n Q' :=
  ⟨fun m w args' ha H hd => (hs.run m w args' ha H hd).mono fun e w' ⟨r, r', h', n', m', h1, h2, h3, h4, h5, h6⟩ => by
    rcases hq r h' n' h6 with h7 | ⟨L, b, hb, h7⟩
    · exact ⟨r, r', h', n', m', h1, h2, h3, h4, h5, h7⟩
    · exact ⟨r, r', _, n', m', h1, h2, h3.freeze hb, h4, h5.trans (Mv.freeze hb), h7⟩⟩
/-! ### One fresh slice, in normal form -/
def gcv (n k m : Nat) : Value := if m = 0 then .slice none 0 0 else .slice (some ⟨n, 0, none⟩) m (k + 2)
def gcu (n : Nat) (e : TypeId) (cells : List Value) (m : Nat) (o : Bool) : List (Nat × Blk) := if m = 0 then [] else [(n, ⟨cells, e, 0, o⟩)]
def Carries (F : Value → Value) : Prop := ∀ m s r', (∃ A l c, s = .slice A l c) → VR3 m (F s) r' → ∃ s', VR0 m s s' ∧ ∀ m2 s2, VR0 m2 s2 s' → VR3 m2 (F s2) r'
theorem carries_id : Carries fun s => s := by
  rintro m s r' ⟨A, l, c, rfl⟩ h
  refine ⟨r', ?_, fun m2 s2 h2 => .of2 (.of1 (.of0 h2))⟩
  cases h with | of2 h => cases h with | of1 h => cases h with | of0 h => exact h
theorem carries_pair {v : Value} (hv : closed2 v = true) : Carries fun s => .tuple #[s, v] := by
  rintro m s r' ⟨A, l, c, rfl⟩ h
  cases h with
  | of2 h => exact absurd h VR2.not_tuple
  | @tuple xs ys h =>
    obtain ⟨zs, hz⟩ : ∃ zs, ys.toList = zs := ⟨_, rfl⟩
    rw [hz] at h
    cases h with | @cons _ y1 _ bs h1 h2 =>
    cases h2 with | @cons _ y2 _ bs h2 h3 =>
    cases h3
    refine ⟨y1, ?_, fun m2 s2 h3 => ?_⟩
    · cases h1 with | of1 h => cases h with | of0 h => exact h
    · refine .tuple ?_
      rw [hz]
      exact .cons (.of1 (.of0 h3)) (.cons (by rw [h2.eq hv]; exact VR2.refl hv) .nil)
theorem Spec.gc {P : Program} {g : FuncId} {args : List Value} {h : Heap} {n : Nat} {F : Value → Value} (hF : Carries F) {e : TypeId} {k mlen : Nat} {cells : List Value} (hcl : cells.all closed1 = true)
    (hs : Spec P g args h n fun r h' n' => n ≤ n' ∧ (∀ L, L < n → h' L = h L) ∧ ∃ s, r = F s ∧ GS h' e k s cells mlen n n') (o : Bool) :
    Spec P g args h n fun r h' n' => r = F (gcv n k mlen) ∧ h' = applyU h (gcu n e cells mlen o) ∧ n' = n + 1 := by
  refine ⟨fun m w args' ha H hd => (hs.run m w args' ha H hd).mono ?_⟩
  rintro e1 w' ⟨r, r', h', n', m', rfl, h2, h3, h4, h5, hn, hsame, s, rfl, hg⟩
  have hlt : ∀ L b, h L = some b → L < n := fun L b hL => H.lt hd hL
  have hval : ∃ A l c, s = .slice A l c := by obtain ⟨A, c, hs⟩ := hg.val; exact ⟨A, _, c, hs⟩
  obtain ⟨s', hs', hup⟩ := hF m' s r' hval h2
  -- old blocks under a map that agrees with the old one below n
  have old : ∀ (m2 : LMap), (∀ L g, L < n → m2 L g = m' L g) → m.le m2 := by
    intro m2 hm2 L g p hp
    rw [hm2 L g (hd _ _ _ hp)]; exact h5.step.le _ _ _ hp
  have oldblk : ∀ (m2 : LMap), (∀ L g, L < n → m2 L g = m' L g) → ∀ L b, h L = some b → ∃ k o r c fr, m2 L b.gen = some (k, o, r) ∧ w'.heap[k]? = some (.cells c b.elem fr) ∧ (b.own = true → fr = (0, 0) ∧ o = 0) ∧ o + r = c.size ∧ b.cells.length ≤ r ∧
      ∀ j v, b.cells[j]? = some v → ∃ v', c[o + j]? = some v' ∧ VR1 m2 v v' := by
    intro m2 hm2 L b hL
    have hL' := hlt L b hL
    obtain ⟨k, o, r, c, fr, x1, x2, x3, x4, x5, x6⟩ := h3.blk L b (by rw [hsame L hL']; exact hL)
    refine ⟨k, o, r, c, fr, by rw [hm2 L _ hL']; exact x1, x2, x3, x4, x5, ?_⟩
    intro j v hj
    obtain ⟨v', y1, y2⟩ := x6 j v hj
    refine ⟨v', y1, ?_⟩
    obtain ⟨k0, o0, r0, _, _, z1, _⟩ := H.blk L b hL
    obtain ⟨v0, _, z2⟩ := H.cell hL z1 hj
    exact (z2.back h5.step.le y2).mono (old m2 hm2)
  by_cases hm0 : mlen = 0
  · have hsn : s = .slice none 0 0 := by
      rcases hg with ⟨_, _, h⟩ | ⟨h, _⟩
      · exact h
      · omega
    subst hsn
    let m2 : LMap := fun L g => if L < n then m' L g else none
    have hm2 : ∀ L g, L < n → m2 L g = m' L g := fun L g hL => by simp only [m2, hL, if_true]
    have hle2 : ∀ L g p, m2 L g = some p → L < n ∧ m' L g = some p := by
      intro L g p hp; simp only [m2] at hp; split at hp
      · exact ⟨by assumption, hp⟩
      · cases hp
    refine ⟨F (gcv n k mlen), r', applyU h (gcu n e cells mlen o), n + 1, m2, rfl, ?_, ?_, ?_, ?_, rfl, rfl, rfl⟩
    · rw [gcv, if_pos hm0]; exact hup m2 _ (by cases hs' with | closed h => exact .closed h)
    · rw [gcu, if_pos hm0]
      refine ⟨oldblk m2 hm2, ?_, fun L g k o r hp => h3.inb L g k o r (hle2 _ _ _ hp).2, ?_, H.gl.mono (old m2 hm2), H.gh⟩
      · intro L1 L2 b1 b2 k1 o1 r1 k2 o2 r2 hne a1 a2 ho b1' b2'
        have c1 := hle2 _ _ _ b1'; have c2 := hle2 _ _ _ b2'
        exact h3.sep L1 L2 b1 b2 k1 o1 r1 k2 o2 r2 hne (by rw [hsame _ c1.1]; exact a1) (by rw [hsame _ c2.1]; exact a2) ho c1.2 c2.2
      · intro L b g p hL hp
        have c1 := hle2 _ _ _ hp
        exact h3.gens L b g p (by rw [hsame _ c1.1]; exact hL) c1.2
    · intro L g p hp; have := (hle2 _ _ _ hp).1; omega
    · rw [gcu, if_pos hm0]
      refine ⟨⟨old m2 hm2, h5.step.os, h5.step.tape, h5.step.output, h5.step.size, h5.step.frame, ?_⟩, Nat.le_succ n, ?_⟩
      · intro L b k o r hL ho hp hk
        have c1 := hle2 _ _ _ hp
        exact h5.step.prov L b k o r (by rw [hsame _ c1.1]; exact hL) ho c1.2 hk
      · intro L g p hp
        have c1 := hle2 _ _ _ hp
        exact h5.lab L g p c1.2
  · obtain ⟨x1, Ls, sp, x2, x3, x4, x5, x6⟩ : 0 < mlen ∧ ∃ L sp, s = .slice (some ⟨L, 0, sp⟩) mlen (k + 2) ∧ h' L = some ⟨cells, e, sp.getD 0, true⟩ ∧ cells.length = mlen * k ∧ n ≤ L ∧ L < n' := by
      rcases hg with ⟨h, _⟩ | h
      · exact absurd h hm0
      · exact h
    subst x2
    let m2 : LMap := fun L g => if L < n then m' L g else if L = n ∧ g = 0 then m' Ls (sp.getD 0) else none
    have hm2 : ∀ L g, L < n → m2 L g = m' L g := fun L g hL => by simp only [m2, hL, if_true]
    have hm2n : m2 n 0 = m' Ls (sp.getD 0) := by simp [m2]
    have hle2 : ∀ L g p, m2 L g = some p → (L < n ∧ m' L g = some p) ∨ (L = n ∧ g = 0 ∧ m' Ls (sp.getD 0) = some p) := by
      intro L g p hp; simp only [m2] at hp; split at hp
      · exact .inl ⟨by assumption, hp⟩
      · split at hp
        · rename_i hh; exact .inr ⟨hh.1, hh.2, hp⟩
        · cases hp
    refine ⟨F (gcv n k mlen), r', applyU h (gcu n e cells mlen o), n + 1, m2, rfl, ?_, ?_, ?_, ?_, rfl, rfl, rfl⟩
    · rw [gcv, if_neg hm0]
      refine hup m2 _ ?_
      cases hs' with
      | closed h => simp [closed0] at h
      | slice a1 a2 a3 a4 a5 => exact .slice (by show m2 n 0 = _; rw [hm2n]; exact a1) a2 a3 a4 a5
      | empty => omega
    · rw [gcu, if_neg hm0]
      show HRel (upd h n ⟨cells, e, 0, o⟩) m2 w'
      refine ⟨?_, ?_, ?_, ?_, H.gl.mono (old m2 hm2), fun g x hx => by rw [upd_at, if_neg (by have := hlt _ _ (H.gh g x hx); omega)]; exact H.gh g x hx⟩
      · intro L b hL
        rw [upd_at] at hL
        split at hL
        · rename_i eq; subst eq; cases hL
          obtain ⟨k1, o1, r1, c, fr, y1, y2, y3, y4, y5, y6⟩ := h3.blk Ls _ x3
          refine ⟨k1, o1, r1, c, fr, by rw [hm2n]; exact y1, y2, fun _ => y3 rfl, y4, y5, ?_⟩
          intro j v hj
          obtain ⟨v', z1, z2⟩ := y6 j v hj
          have hc : closed1 v = true := List.all_eq_true.1 hcl v (List.mem_of_getElem? hj)
          exact ⟨v', z1, by rw [z2.eq hc]; exact VR1.refl hc⟩
        · exact oldblk m2 hm2 L b hL
      · intro L1 L2 b1 b2 k1 o1 r1 k2 o2 r2 hne a1 a2 ho b1' b2'
        rw [upd_at] at a1 a2
        split at a1
        · rename_i e1; subst e1; cases a1
          rw [if_neg (fun h => hne h.symm)] at a2
          have l2 := hlt _ _ a2
          rw [hm2n] at b1'; rw [hm2 _ _ l2] at b2'
          exact h3.sep Ls L2 _ b2 k1 o1 r1 k2 o2 r2 (by omega) x3 (by rw [hsame _ l2]; exact a2) rfl b1' b2'
        · have l1 := hlt _ _ a1
          rw [hm2 _ _ l1] at b1'
          split at a2
          · rename_i e1; subst e1; cases a2
            rw [hm2n] at b2'
            exact h3.sep L1 Ls b1 _ k1 o1 r1 k2 o2 r2 (by omega) (by rw [hsame _ l1]; exact a1) x3 ho b1' b2'
          · have l2 := hlt _ _ a2
            rw [hm2 _ _ l2] at b2'
            exact h3.sep L1 L2 b1 b2 k1 o1 r1 k2 o2 r2 hne (by rw [hsame _ l1]; exact a1) (by rw [hsame _ l2]; exact a2) ho b1' b2'
      · intro L g k o r hp
        rcases hle2 _ _ _ hp with ⟨_, h⟩ | ⟨_, _, h⟩
        · exact h3.inb _ _ _ _ _ h
        · exact h3.inb _ _ _ _ _ h
      · intro L b g p hL hp
        rw [upd_at] at hL
        rcases hle2 _ _ _ hp with ⟨hl, h⟩ | ⟨hl, hg0, h⟩
        · rw [if_neg (by omega)] at hL
          exact h3.gens L b g p (by rw [hsame _ hl]; exact hL) h
        · rw [hg0]; exact Nat.zero_le _
    · intro L g p hp
      rcases hle2 _ _ _ hp with ⟨hl, h⟩ | ⟨hl, _, h⟩ <;> omega
    · rw [gcu, if_neg hm0]
      show Mv h m w n (upd h n ⟨cells, e, 0, o⟩) m2 w' (n + 1)
      refine ⟨⟨old m2 hm2, h5.step.os, h5.step.tape, h5.step.output, h5.step.size, h5.step.frame, ?_⟩, Nat.le_succ n, ?_⟩
      · intro L b k1 o1 r1 hL ho hp hk
        rw [upd_at] at hL
        rcases hle2 _ _ _ hp with ⟨hl, h⟩ | ⟨hl, hg0, h⟩
        · rw [if_neg (by omega)] at hL
          exact h5.step.prov L b k1 o1 r1 (by rw [hsame _ hl]; exact hL) ho h hk
        · exact h5.step.prov Ls _ k1 o1 r1 x3 rfl h hk
      · intro L g p hp
        rcases hle2 _ _ _ hp with ⟨hl, h⟩ | ⟨hl, hg0, h⟩
        · exact h5.lab L g p h
        · right; omega
/-- The same at a label that is given. -/
theorem SpecL.gc {P : Program} {g : FuncId} {args : List Value} {h : Heap} {N : Nat} {F : Value → Value} (hF : Carries F) {e : TypeId} {k mlen : Nat} {cells : List Value} (hcl : cells.all closed1 = true)
    (hs : ∀ n, Spec P g args h n fun r h' n' => n ≤ n' ∧ (∀ L, L < n → h' L = h L) ∧ ∃ s, r = F s ∧ GS h' e k s cells mlen n n') (o : Bool) :
    SpecL P g args h N (F (gcv N k mlen)) (gcu N e cells mlen o) := by
  refine ⟨fun m w args' n ha H hd hN hNn => ((hs n).run m w args' ha H hd).mono ?_⟩
  rintro e1 w' ⟨r, r', h', n', m', rfl, h2, h3, h4, h5, hn, hsame, s, rfl, hg⟩
  have hlt : ∀ L b, h L = some b → L < n := fun L b hL => H.lt hd hL
  have hneN : ∀ L b, h L = some b → L ≠ N := by
    rintro L b hL rfl
    obtain ⟨k0, o0, r0, _, _, z1, _⟩ := H.blk L b hL
    rw [hN] at z1; cases z1
  have hN' : ∀ g, m' N g = none := by
    intro g
    cases hh : m' N g with
    | none => rfl
    | some p =>
      rcases h5.lab N g p hh with ⟨g', p', h6⟩ | h6
      · rw [hN] at h6; cases h6
      · omega
  have hval : ∃ A l c, s = .slice A l c := by obtain ⟨A, c, hs⟩ := hg.val; exact ⟨A, _, c, hs⟩
  obtain ⟨s', hs', hup⟩ := hF m' s r' hval h2
  have old : ∀ (m2 : LMap), (∀ L g, L < n → L ≠ N → m2 L g = m' L g) → m.le m2 := by
    intro m2 hm2 L g p hp
    rw [hm2 L g (hd _ _ _ hp) (fun e => by subst e; rw [hN] at hp; cases hp)]; exact h5.step.le _ _ _ hp
  have oldblk : ∀ (m2 : LMap), (∀ L g, L < n → L ≠ N → m2 L g = m' L g) → ∀ L b, h L = some b → ∃ k o r c fr, m2 L b.gen = some (k, o, r) ∧ w'.heap[k]? = some (.cells c b.elem fr) ∧ (b.own = true → fr = (0, 0) ∧ o = 0) ∧ o + r = c.size ∧ b.cells.length ≤ r ∧
      ∀ j v, b.cells[j]? = some v → ∃ v', c[o + j]? = some v' ∧ VR1 m2 v v' := by
    intro m2 hm2 L b hL
    have hL' := hlt L b hL
    obtain ⟨k, o, r, c, fr, x1, x2, x3, x4, x5, x6⟩ := h3.blk L b (by rw [hsame L hL']; exact hL)
    refine ⟨k, o, r, c, fr, by rw [hm2 L _ hL' (hneN L b hL)]; exact x1, x2, x3, x4, x5, ?_⟩
    intro j v hj
    obtain ⟨v', y1, y2⟩ := x6 j v hj
    refine ⟨v', y1, ?_⟩
    obtain ⟨k0, o0, r0, _, _, z1, _⟩ := H.blk L b hL
    obtain ⟨v0, _, z2⟩ := H.cell hL z1 hj
    exact (z2.back h5.step.le y2).mono (old m2 hm2)
  by_cases hm0 : mlen = 0
  · have hsn : s = .slice none 0 0 := by
      rcases hg with ⟨_, _, h⟩ | ⟨h, _⟩
      · exact h
      · omega
    subst hsn
    let m2 : LMap := fun L g => if L < n then m' L g else none
    have hm2 : ∀ L g, L < n → L ≠ N → m2 L g = m' L g := fun L g hL _ => by simp only [m2, hL, if_true]
    have hle2 : ∀ L g p, m2 L g = some p → L < n ∧ m' L g = some p := by
      intro L g p hp; simp only [m2] at hp; split at hp
      · exact ⟨by assumption, hp⟩
      · cases hp
    refine ⟨r', m2, rfl, ?_, ?_, ?_, ?_⟩
    · rw [gcv, if_pos hm0]; exact hup m2 _ (by cases hs' with | closed h => exact .closed h)
    · rw [gcu, if_pos hm0]
      refine ⟨oldblk m2 hm2, ?_, fun L g k o r hp => h3.inb L g k o r (hle2 _ _ _ hp).2, ?_, H.gl.mono (old m2 hm2), H.gh⟩
      · intro L1 L2 b1 b2 k1 o1 r1 k2 o2 r2 hne a1 a2 ho b1' b2'
        have c1 := hle2 _ _ _ b1'; have c2 := hle2 _ _ _ b2'
        exact h3.sep L1 L2 b1 b2 k1 o1 r1 k2 o2 r2 hne (by rw [hsame _ c1.1]; exact a1) (by rw [hsame _ c2.1]; exact a2) ho c1.2 c2.2
      · intro L b g p hL hp
        have c1 := hle2 _ _ _ hp
        exact h3.gens L b g p (by rw [hsame _ c1.1]; exact hL) c1.2
    · rw [gcu, if_pos hm0]
      refine ⟨old m2 hm2, h5.step.os, h5.step.tape, h5.step.output, h5.step.size, h5.step.frame, ?_⟩
      intro L b k o r hL ho hp hk
      have c1 := hle2 _ _ _ hp
      exact h5.step.prov L b k o r (by rw [hsame _ c1.1]; exact hL) ho c1.2 hk
    · intro L g p hp
      have c1 := hle2 _ _ _ hp
      rcases h5.lab L g p c1.2 with h | h
      · exact .inl h
      · omega
  · obtain ⟨x1, Ls, sp, x2, x3, x4, x5, x6⟩ : 0 < mlen ∧ ∃ L sp, s = .slice (some ⟨L, 0, sp⟩) mlen (k + 2) ∧ h' L = some ⟨cells, e, sp.getD 0, true⟩ ∧ cells.length = mlen * k ∧ n ≤ L ∧ L < n' := by
      rcases hg with ⟨h, _⟩ | h
      · exact absurd h hm0
      · exact h
    subst x2
    let m2 : LMap := fun L g => if L = N then (if g = 0 then m' Ls (sp.getD 0) else none) else if L < n then m' L g else none
    have hm2 : ∀ L g, L < n → L ≠ N → m2 L g = m' L g := fun L g hL hne => by simp only [m2, hL, hne, if_false, if_true]
    have hm2n : m2 N 0 = m' Ls (sp.getD 0) := by simp [m2]
    have hle2 : ∀ L g p, m2 L g = some p → (L < n ∧ L ≠ N ∧ m' L g = some p) ∨ (L = N ∧ g = 0 ∧ m' Ls (sp.getD 0) = some p) := by
      intro L g p hp; simp only [m2] at hp; split at hp
      · rename_i hh
        split at hp
        · exact .inr ⟨hh, by assumption, hp⟩
        · cases hp
      · rename_i hh
        split at hp
        · exact .inl ⟨by assumption, hh, hp⟩
        · cases hp
    refine ⟨r', m2, rfl, ?_, ?_, ?_, ?_⟩
    · rw [gcv, if_neg hm0]
      refine hup m2 _ ?_
      cases hs' with
      | closed h => simp [closed0] at h
      | slice a1 a2 a3 a4 a5 => exact .slice (by show m2 N 0 = _; rw [hm2n]; exact a1) a2 a3 a4 a5
      | empty => omega
    · rw [gcu, if_neg hm0]
      show HRel (upd h N ⟨cells, e, 0, o⟩) m2 w'
      refine ⟨?_, ?_, ?_, ?_, H.gl.mono (old m2 hm2), fun g x hx => by rw [upd_at, if_neg (hneN _ _ (H.gh g x hx))]; exact H.gh g x hx⟩
      · intro L b hL
        rw [upd_at] at hL
        split at hL
        · rename_i eq; subst eq; cases hL
          obtain ⟨k1, o1, r1, c, fr, y1, y2, y3, y4, y5, y6⟩ := h3.blk Ls _ x3
          refine ⟨k1, o1, r1, c, fr, by rw [hm2n]; exact y1, y2, fun _ => y3 rfl, y4, y5, ?_⟩
          intro j v hj
          obtain ⟨v', z1, z2⟩ := y6 j v hj
          have hc : closed1 v = true := List.all_eq_true.1 hcl v (List.mem_of_getElem? hj)
          exact ⟨v', z1, by rw [z2.eq hc]; exact VR1.refl hc⟩
        · exact oldblk m2 hm2 L b hL
      · intro L1 L2 b1 b2 k1 o1 r1 k2 o2 r2 hne a1 a2 ho b1' b2'
        rw [upd_at] at a1 a2
        split at a1
        · rename_i e1; subst e1; cases a1
          rw [if_neg (fun h => hne h.symm)] at a2
          have l2 := hlt _ _ a2
          rw [hm2n] at b1'; rw [hm2 _ _ l2 (hneN _ _ a2)] at b2'
          exact h3.sep Ls L2 _ b2 k1 o1 r1 k2 o2 r2 (by omega) x3 (by rw [hsame _ l2]; exact a2) rfl b1' b2'
        · have l1 := hlt _ _ a1
          rw [hm2 _ _ l1 (hneN _ _ a1)] at b1'
          split at a2
          · rename_i e1; subst e1; cases a2
            rw [hm2n] at b2'
            exact h3.sep L1 Ls b1 _ k1 o1 r1 k2 o2 r2 (by omega) (by rw [hsame _ l1]; exact a1) x3 ho b1' b2'
          · have l2 := hlt _ _ a2
            rw [hm2 _ _ l2 (hneN _ _ a2)] at b2'
            exact h3.sep L1 L2 b1 b2 k1 o1 r1 k2 o2 r2 hne (by rw [hsame _ l1]; exact a1) (by rw [hsame _ l2]; exact a2) ho b1' b2'
      · intro L g k o r hp
        rcases hle2 _ _ _ hp with ⟨_, _, h⟩ | ⟨_, _, h⟩
        · exact h3.inb _ _ _ _ _ h
        · exact h3.inb _ _ _ _ _ h
      · intro L b g p hL hp
        rw [upd_at] at hL
        rcases hle2 _ _ _ hp with ⟨hl, hne, h⟩ | ⟨hl, hg0, h⟩
        · rw [if_neg hne] at hL
          exact h3.gens L b g p (by rw [hsame _ hl]; exact hL) h
        · rw [hg0]; exact Nat.zero_le _
    · rw [gcu, if_neg hm0]
      refine ⟨old m2 hm2, h5.step.os, h5.step.tape, h5.step.output, h5.step.size, h5.step.frame, ?_⟩
      intro L b k1 o1 r1 hL ho hp hk
      replace hL : upd h N ⟨cells, e, 0, o⟩ L = some b := hL
      rw [upd_at] at hL
      rcases hle2 _ _ _ hp with ⟨hl, hne, h⟩ | ⟨hl, hg0, h⟩
      · rw [if_neg hne] at hL
        exact h5.step.prov L b k1 o1 r1 (by rw [hsame _ hl]; exact hL) ho h hk
      · exact h5.step.prov Ls _ k1 o1 r1 x3 rfl h hk
    · intro L g p hp
      rcases hle2 _ _ _ hp with ⟨hl, hne, h⟩ | ⟨hl, hg0, h⟩
      · rcases h5.lab L g p h with h | h
        · exact .inl h
        · omega
      · exact .inr hl
end Go.Dm
/- The abstract machine, part R: how a call from outside comes in, and what it leaves. -/
set_option linter.unusedSimpArgs false
set_option linter.unusedVariables false
namespace Go.Dm
open Go

/-- What came in: nobody changes it. -/
structure Ent (h : Heap) (m : LMap) (n : Nat) (w : World) : Prop where
  rel : HRel h m w
  dom : ∀ L g p, m L g = some p → L < n
  no : ∀ L b, h L = some b → b.own = false
/-- How the package-level variables lie, where they hold no place. -/
def m0 (w : World) : LMap := fun L g => if L < NG ∧ g = 0 then some (L, 0, match w.heap[L]? with | some (.cells c _ _) => c.size | _ => 0) else none
/-- The world holds what is known of the variables. -/
structure GW (w : World) : Prop where
  size : NG ≤ w.heap.size
  cells : ∀ g b, GH g = some b → b.cells.all closed1 = true ∧ ∃ c fr, w.heap[g]? = some (.cells c b.elem fr) ∧ ∀ (j : Nat) (v : Value), b.cells[j]? = some v → c[j]? = some v
theorem Ent.start {w : World} (hw : GW w) : Ent GH (m0 w) NB w := by
  refine ⟨⟨?_, ?_, ?_, ?_, ?_, fun _ _ h => h⟩, ?_, fun L b h => GH_own h⟩
  · intro L b h
    obtain ⟨h1, h2, h3, _⟩ := GH_mem h
    obtain ⟨hcl, c, fr, hc, hj⟩ := hw.cells L b h
    refine ⟨L, 0, c.size, c, fr, by simp only [m0]; rw [if_pos ⟨h1, h3⟩, hc], hc, fun h => (by rw [h2] at h; cases h), by omega, ?_, ?_⟩
    · rcases Nat.lt_or_ge c.size b.cells.length with hlt | hge
      · have := hj c.size b.cells[c.size] (List.getElem?_eq_getElem hlt)
        have := (Array.getElem?_eq_some_iff.1 this).1; omega
      · exact hge
    · intro j v hv
      exact ⟨v, by rw [Nat.zero_add]; exact hj j v hv, VR1.refl (List.all_eq_true.1 hcl v (List.mem_of_getElem? hv))⟩
  · intro L1 L2 b1 b2 k1 o1 r1 k2 o2 r2 _ h1 _ ho
    rw [GH_own h1] at ho; cases ho
  · intro L g k o r h
    simp only [m0] at h
    split at h
    · rename_i hh; cases h; exact Nat.lt_of_lt_of_le hh.1 hw.size
    · cases h
  · intro L b g p h hm
    simp only [m0] at hm
    split at hm
    · rename_i hh; rw [hh.2]; exact Nat.zero_le _
    · cases hm
  · intro g hg
    exact ⟨_, by simp only [m0]; rw [if_pos ⟨hg, trivial⟩]⟩
  · intro L g p h
    simp only [m0] at h
    split at h
    · rename_i hh; exact Nat.lt_of_lt_of_le hh.1 ng_nb
    · cases h
/-- A row of cells that came in. -/
theorem Ent.row {h : Heap} {m : LMap} {n : Nat} {w : World} (E : Ent h m n w) {a : Addr} {cells : List Value} (hpos : 0 < cells.length) (hc : ∀ j v, cells[j]? = some v → w.cell? (a.add j) = some v) (hcl : cells.all closed1 = true) :
    ∃ b m', b.cells = cells ∧ b.gen = 0 ∧ b.own = false ∧ Ent (upd h n b) m' (n + 1) w ∧ m.le m' ∧ ∃ r, m' n 0 = some (a.block, a.off, r) ∧ a.spot = none := by
  have hfr : ∀ g, m n g = none := by
    intro g; cases hh : m n g with
    | none => rfl
    | some p => exact absurd (E.dom _ _ _ hh) (Nat.lt_irrefl n)
  have h0 := hc 0 cells[0] (List.getElem?_eq_getElem hpos)
  have hsp : a.spot = none := by have := World.cell?_spot h0; simpa [Addr.add] using this
  have hadd : ∀ j, a.add j = ⟨a.block, a.off + j, none⟩ := by
    obtain ⟨k, o, sp⟩ := a
    simp only at hsp
    subst hsp
    exact fun j => add_at k o j
  obtain ⟨c, e, fr, hb⟩ : ∃ c e fr, w.heap[a.block]? = some (.cells c e fr) := by
    unfold World.cell? at h0
    simp only [hadd] at h0
    split at h0
    · rename_i c e fr hb; exact ⟨c, e, fr, hb⟩
    · cases h0
  have hcell : ∀ j v, cells[j]? = some v → c[a.off + j]? = some v := by
    intro j v hj
    have h1 := hc j v hj
    unfold World.cell? at h1
    simp only [hadd, hb] at h1
    simpa using h1
  have hsz : a.off + cells.length ≤ c.size := by
    have h1 := hcell (cells.length - 1) cells[cells.length - 1] (List.getElem?_eq_getElem (by omega))
    have := (Array.getElem?_eq_some_iff.1 h1).1
    omega
  have hk : a.block < w.heap.size := (Array.getElem?_eq_some_iff.1 hb).1
  refine ⟨⟨cells, e, 0, false⟩, updm m n 0 (a.block, a.off, c.size - a.off), rfl, rfl, rfl, ⟨⟨?_, ?_, ?_, ?_, E.rel.gl.mono (le_updm (.inl (hfr 0))), E.rel.gh_new hfr⟩, ?_, ?_⟩, le_updm (.inl (hfr 0)), c.size - a.off, by simp [updm], hsp⟩
  · intro L b hL
    rw [upd_at] at hL
    split at hL
    · rename_i e1; subst e1; cases hL
      exact ⟨a.block, a.off, c.size - a.off, c, fr, by simp [updm], hb, (fun h => by cases h), by omega, by simp only; omega, fun j v hj => ⟨v, hcell j v hj, VR1.refl (List.all_eq_true.1 hcl v (List.mem_of_getElem? hj))⟩⟩
    · obtain ⟨k, o, r, c', fr', x1, x2, x3, x4, x5, x6⟩ := E.rel.blk L b hL
      refine ⟨k, o, r, c', fr', le_updm (.inl (hfr 0)) _ _ _ x1, x2, x3, x4, x5, fun j v hj => ?_⟩
      obtain ⟨v', y1, y2⟩ := x6 j v hj
      exact ⟨v', y1, y2.mono (le_updm (.inl (hfr 0)))⟩
  · intro L1 L2 b1 b2 k1 o1 r1 k2 o2 r2 hne h1 h2 ho
    rw [upd_at] at h1
    split at h1
    · cases h1; cases ho
    · rw [E.no _ _ h1] at ho; cases ho
  · intro L g k o r hp
    unfold updm at hp
    split at hp
    · cases hp; exact hk
    · exact E.rel.inb L g k o r hp
  · intro L b g p hL hp
    rw [upd_at] at hL
    unfold updm at hp
    split at hL
    · rename_i e1; subst e1; cases hL
      split at hp
      · rename_i hh; rw [hh.2]; exact Nat.zero_le _
      · rw [hfr g] at hp; cases hp
    · rename_i hne
      rw [if_neg (fun hh => hne hh.1)] at hp
      exact E.rel.gens L b g p hL hp
  · intro L g p hp
    unfold updm at hp
    split at hp
    · rename_i hh; omega
    · have := E.dom L g p hp; omega
  · intro L b hL
    rw [upd_at] at hL
    split at hL
    · cases hL; rfl
    · exact E.no L b hL
theorem slice_in {m : LMap} {n : Nat} {a : Addr} {r len cap : Nat} (hm : m n 0 = some (a.block, a.off, r)) (hs : a.spot = none) (h0 : 0 < len) (h1 : len ≤ cap) : VR3 m (.slice (some ⟨n, 0, none⟩) len 0) (.slice (some a) len cap) := by
  obtain ⟨k, o, sp⟩ := a
  simp only at hm hs
  subst hs
  exact .of2 (.of1 (.of0 (.slice (a := ⟨n, 0, none⟩) (k := k) (o := o) (r := r) hm h0 h1 (fun h => by cases h) (fun s h => by omega))))
theorem slice_in_empty {m : LMap} {a : Addr} {cap : Nat} : VR3 m (.slice (some ⟨0, 0, none⟩) 0 0) (.slice (some a) 0 cap) := .of2 (.of1 (.of0 (.empty (fun h => by cases h) (fun s h => by omega))))
/-- A law's contract, told of the machine. -/
theorem Spec.law {P : Program} {g : FuncId} {vs args : List Value} {h : Heap} {m : LMap} {n : Nat} {w : World} (E : Ent h m n w) (hs : Spec P g vs h n fun r _ _ => r = .bool true) (hent : Enterable P g) (ha : All2 (VR3 m) vs args) :
    Calls P g args.toArray w fun e w' => e = .returned (.bool true) ∧ RowKit.Below w.heap.size w w' := by
  rcases hs.run m w args ha E.rel E.dom with ⟨_, hc⟩ | ⟨v, w', h1, _⟩
  · refine hc.mono ?_
    rintro e w' ⟨r, r', h', n', m', rfl, h2, h3, h4, h5, rfl⟩
    have := bool_inv h2
    subst this
    exact ⟨rfl, h5.step.os, h5.step.tape, h5.step.output, h5.step.size, fun k hk => h5.step.frame k hk fun L b o r hL ho => by rw [E.no L b hL] at ho; cases ho⟩
  · obtain ⟨fn, hf, hnm, hbd⟩ := hent
    have : (callFunc g args.toArray).run P w = .ok (.enter g args.toArray) w := by
      simp only [callFunc, Sem.run_bind, run_program, Sem.run_pure, Result.andThen_ok, hf, hnm, hbd, Bool.false_eq_true, if_false]
    rw [this] at h1; cases h1
end Go.Dm
