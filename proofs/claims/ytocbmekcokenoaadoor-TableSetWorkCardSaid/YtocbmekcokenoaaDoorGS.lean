/- The abstract machine, part S: an evaluator: a closed run is reckoned by the kernel. -/
import Derived.Test.YtocbmekcokenoaaDoorG2
set_option linter.unusedSimpArgs false
set_option linter.unusedVariables false
namespace Go.Dm
open Go

/-! ### Heaps as lists, the newest first -/
abbrev LH := List (Nat × Blk)
def hp : LH → Heap
  | [], _ => none
  | (K, b) :: r, L => if L = K then some b else hp r L
def effE (H : LH) : Option (Nat × Blk) → LH
  | none => H
  | some (L, b) => (L, b) :: H
theorem hp_cons (K : Nat) (b : Blk) (H : LH) : upd (hp H) K b = hp ((K, b) :: H) := by funext L; simp only [upd_at, hp]
theorem hp_eff (H : LH) (e : Option (Nat × Blk)) : eff (hp H) e = hp (effE H e) := by cases e with | none => rfl | some p => exact hp_cons _ _ _
theorem hp_applyU (D H : LH) : applyU (hp H) D.reverse = hp (D ++ H) := by
  induction D with
  | nil => rfl
  | cons p D ih =>
    simp only [List.reverse_cons, applyU, List.foldl_append, List.foldl_cons, List.foldl_nil, List.cons_append]
    simp only [applyU] at ih
    rw [ih]; exact hp_cons _ _ _
theorem hp_old {D H : LH} {n : Nat} (hD : D.all (fun u => decide (n ≤ u.1)) = true) : ∀ L, L < n → hp (D ++ H) L = hp H L := by
  intro L hL
  induction D with
  | nil => rfl
  | cons p D ih =>
    simp only [List.all_cons, Bool.and_eq_true, decide_eq_true_eq] at hD
    simp only [List.cons_append, hp]
    rw [if_neg (by omega), ih hD.2]
/-! ### Pairs, decided -/
def apartB (p q : PE) : Bool :=
  (!p.all || (q.us.isEmpty && q.lo == q.hi && !q.all)) && (!q.all || (p.us.isEmpty && p.lo == p.hi && !p.all)) &&
  (p.us.all fun u => !(q.reads.contains u.1) && q.us.all fun v => u.1 != v.1) && (q.us.all fun u => !(p.reads.contains u.1))
theorem apartB_sound {p q : PE} (h : apartB p q = true) : apart p q := by
  simp only [apartB, Bool.and_eq_true, Bool.or_eq_true, Bool.not_eq_true', List.isEmpty_iff, beq_iff_eq, List.all_eq_true, bne_iff_ne, ne_eq, List.contains_eq_mem, decide_eq_false_iff_not] at h
  obtain ⟨⟨⟨h1, h2⟩, h3⟩, h4⟩ := h
  refine ⟨fun hp => ?_, fun hq => ?_, fun u hu => ⟨(h3 u hu).1, fun v hv => (h3 u hu).2 v hv⟩, fun u hu => h4 u hu⟩
  · rcases h1 with h1 | h1
    · rw [hp] at h1; cases h1
    · exact ⟨h1.1.1, h1.1.2, h1.2⟩
  · rcases h2 with h2 | h2
    · rw [hq] at h2; cases h2
    · exact ⟨h2.1.1, h2.1.2, h2.2⟩
def pairsB (acc : List PE) : List (Nat × Nat) → Bool
  | [] => true
  | (i, j) :: r => (match acc[i]?, acc[j]? with | some p, some q => apartB p q | _, _ => true) && pairsB acc r
theorem pairsB_sound {acc : List PE} : ∀ {l : List (Nat × Nat)}, pairsB acc l = true → Pairs acc l
  | [], _ => trivial
  | (i, j) :: r, h => by
    simp only [pairsB, Bool.and_eq_true] at h
    refine ⟨?_, pairsB_sound h.2⟩
    have h1 := h.1
    split
    · rename_i p q hp hq; rw [hp, hq] at h1; exact apartB_sound h1
    · trivial
/-! ### Code: what is looked at once -/
def okC (N : Nat) : Code → Bool
  | .skip | .ret | .exit _ => true
  | .seq x y => okC N x && okC N y
  | .cond _ x y => okC N x && okC N y
  | .block _ c => okC N c
  | .loop c => okC N c
  | .region _ ops draw => dstsOK ops N && (!draw || (backOK ops && tmpsOK ops))
  | _ => true
/-- What a call left: nothing, whatever was there · nothing · another heap. -/
inductive After | pure | same | heap (H : LH) (n : Nat)
abbrev CallE := FuncId → List Value → LH → Nat → Option (Value × After)
structure EcOK (P : Program) (ec : CallE) : Prop where
  pure : ∀ g vs H n r, ec g vs H n = some (r, .pure) → ∀ h n, Spec P g vs h n fun r' h' n' => r' = r ∧ h' = h ∧ n' = n
  same : ∀ g vs H n r, ec g vs H n = some (r, .same) → Spec P g vs (hp H) n fun r' h' n' => r' = r ∧ h' = hp H ∧ n' = n
  heap : ∀ g vs H n r H' n', ec g vs H n = some (r, .heap H' n') → (∃ D, H' = D ++ H) ∧ Spec P g vs (hp H) n fun r' h' n1 => r' = r ∧ h' = hp H' ∧ n1 = n'
/-- What lies ahead of H in H'. -/
def ahead (H' H : LH) : LH := H'.take (H'.length - H.length)
theorem ahead_eq {H' H : LH} (h : ∃ D, H' = D ++ H) : ahead H' H ++ H = H' := by
  obtain ⟨D, rfl⟩ := h
  simp [ahead]
section
variable (P : Program) (ec : CallE)
def runE (ops : Array Oper) : List Oper → TEnv → LH → Nat → Option (TEnv × LH × Nat)
  | [], T, H, n => some (T, H, n)
  | o :: rest, T, H, n =>
    match wantedA ops o T with
    | none => none
    | some false => runE ops rest (putA T o.dst undef) H n
    | some true =>
      match callOf o with
      | some c => match calleeA T c with
        | some (g, vs) => match ec g vs H n with
          | some (r, .pure) => runE ops rest (putA T o.dst r) H n
          | some (r, .same) => runE ops rest (putA T o.dst r) H n
          | some (r, .heap H' n') => runE ops rest (putA T o.dst r) H' n'
          | none => none
        | none => none
      | none => match lop P o T (hp H) n with
        | some (v, e) => runE ops rest (putA T o.dst v) (effE H e) (allocs n e)
        | none => none
def runDE (ops : Array Oper) : List Oper → TEnv → LH → Nat → List PE → Option (TEnv × LH × Nat × List PE)
  | [], T, H, n, acc => some (T, H, n, acc)
  | o :: rest, T, H, n, acc =>
    match wantedA ops o T with
    | none => none
    | some false => runDE ops rest (putA T o.dst undef) H n (acc ++ [⟨undef, [], n, n, [], false⟩])
    | some true =>
      match callOf o with
      | some c => match calleeA T c with
        | some (g, vs) => match ec g vs H n with
          | some (r, .pure) => runDE ops rest (putA T o.dst r) H n (acc ++ [⟨r, [], n, n, [], false⟩])
          | some (r, .same) => runDE ops rest (putA T o.dst r) H n (acc ++ [⟨r, [], n, n, [], true⟩])
          | some (r, .heap H' n') => if (ahead H' H).all (fun u => decide (u.1 < n')) && decide (n ≤ n') then runDE ops rest (putA T o.dst r) H' n' (acc ++ [⟨r, (ahead H' H).reverse, n, n', [], true⟩]) else none
          | none => none
        | none => none
      | none => match lop P o T (hp H) n with
        | some (v, e) => runDE ops rest (putA T o.dst v) (effE H e) (allocs n e) (acc ++ [⟨v, e.toList, n, allocs n e, lreads o T, false⟩])
        | none => none
/-- Slots without the shadowed ones. -/
def dd : List Nat → TEnv → TEnv
  | _, [] => []
  | seen, (t, v) :: r => if seen.contains t then dd seen r else (t, v) :: dd (t :: seen) r
def evalC : Nat → Code → TEnv → LH → Nat → Option (Exit × TEnv × LH × Nat)
  | 0, _, _, _, _ => none
  | k + 1, c, T, H, n =>
    match c with
    | .skip => some (.normal, T, H, n)
    | .ret => some (.ret, T, H, n)
    | .exit i => some (.exit i, T, H, n)
    | .seq x y => match evalC k x T H n with
      | some (.normal, T, H, n) => evalC k y T H n
      | r => r
    | .cond c x y => match ev T c with
      | some (.bool true) => evalC k x T H n
      | some (.bool false) => evalC k y T H n
      | _ => none
    | .block i c => match evalC k c T H n with
      | some (.exit j, T, H, n) => if j = i then some (.normal, T, H, n) else some (.exit j, T, H, n)
      | r => r
    | .loop c => match evalC k c T H n with
      | some (.normal, T, H, n) => evalC k (.loop c) (dd [] T) H n
      | r => r
    | .region _ ops draw =>
      if draw then match runDE P ec ops ops.toList T H n [] with
        | some (T, H, n, acc) => if pairsB acc (unord ops) then some (.normal, T, H, n) else none
        | none => none
      else match runE P ec ops ops.toList T H n with
        | some (T, H, n) => some (.normal, T, H, n)
        | none => none
    | _ => none
end
theorem dd_le : ∀ (T : TEnv) (seen : List Nat) (t : Nat) (v : Value), find (dd seen T) t = some v → seen.contains t = false → find T t = some v
  | [], _, _, _, h, _ => by simp [dd, find] at h
  | (u, x) :: r, seen, t, v, h, hs => by
    simp only [dd] at h
    simp only [find]
    split at h
    · rename_i hu
      have : t ≠ u := fun e => by subst e; rw [hs] at hu; cases hu
      rw [if_neg this]; exact dd_le r seen t v h hs
    · simp only [find] at h
      split at h
      · rename_i e; rw [if_pos e]; exact h
      · rename_i e
        rw [if_neg e]
        exact dd_le r (u :: seen) t v h (by simp only [List.contains_cons, Bool.or_eq_false_iff, beq_eq_false_iff_ne]; exact ⟨e, hs⟩)

section
variable {P : Program} {ec : CallE} (he : EcOK P ec)
include he
theorem runE_sound {ops : Array Oper} {T' : TEnv} {H' : LH} {n' : Nat} {K : TEnv → Heap → Nat → Prop} (hK : K T' (hp H') n') : ∀ (l : List Oper) (T : TEnv) (H : LH) (n : Nat), runE P ec ops l T H n = some (T', H', n') → RunSeq P ops l T (hp H) n K := by
  intro l
  induction l with
  | nil => intro T H n h; simp only [runE, Option.some.injEq, Prod.mk.injEq] at h; obtain ⟨rfl, rfl, rfl⟩ := h; exact hK
  | cons o rest ih =>
    intro T H n h
    unfold runE at h
    unfold RunSeq
    split at h
    · cases h
    · rename_i hw; rw [hw]; simp only [Bool.false_eq_true, if_false]; exact ih _ _ _ h
    · rename_i hw; rw [hw]; simp only [if_true]
      split at h
      · rename_i c hc
        simp only [hc]
        split at h
        · rename_i g vs hg
          simp only [hg]
          split at h
          · rename_i r hr
            refine (he.pure _ _ _ _ _ hr _ _).mono ?_
            rintro r' h' n1 ⟨rfl, rfl, rfl⟩; exact ih _ _ _ h
          · rename_i r hr
            refine (he.same _ _ _ _ _ hr).mono ?_
            rintro r' h' n1 ⟨rfl, rfl, rfl⟩; exact ih _ _ _ h
          · rename_i r D n2 hr
            refine (he.heap _ _ _ _ _ _ _ hr).2.mono ?_
            rintro r' h' n1 ⟨rfl, rfl, rfl⟩; exact ih _ _ _ h
          · cases h
        · cases h
      · rename_i hc
        simp only [hc]
        split at h
        · rename_i v e hl
          simp only [hl]
          rw [hp_eff]; exact ih _ _ _ h
        · cases h
theorem runDE_sound {ops : Array Oper} {T' : TEnv} {H' : LH} {n' : Nat} {acc' : List PE} {K : TEnv → Heap → Nat → List PE → Prop} (hK : K T' (hp H') n' acc') : ∀ (l : List Oper) (T : TEnv) (H : LH) (n : Nat) (acc : List PE), runDE P ec ops l T H n acc = some (T', H', n', acc') →
    RunD P ops l T (hp H) n acc K := by
  intro l
  induction l with
  | nil => intro T H n acc h; simp only [runDE, Option.some.injEq, Prod.mk.injEq] at h; obtain ⟨rfl, rfl, rfl, rfl⟩ := h; exact hK
  | cons o rest ih =>
    intro T H n acc h
    unfold runDE at h
    unfold RunD
    split at h
    · cases h
    · rename_i hw; rw [hw]; simp only [Bool.false_eq_true, if_false]; exact ih _ _ _ _ h
    · rename_i hw; rw [hw]; simp only [if_true]
      split at h
      · rename_i c hc
        simp only [hc]
        split at h
        · rename_i g vs hg
          simp only [hg]
          split at h
          · rename_i r hr
            exact .inl ⟨r, [], fun h2 n2 _ => he.pure _ _ _ _ _ hr h2 n2, ih _ _ _ _ h⟩
          · rename_i r hr
            exact .inr (.inl ⟨r, [], n, Nat.le_refl n, (fun u hu => by cases hu), he.same _ _ _ _ _ hr, ih _ _ _ _ h⟩)
          · rename_i r H2 n2 hr
            split at h
            · rename_i hok
              simp only [Bool.and_eq_true, List.all_eq_true, decide_eq_true_eq] at hok
              obtain ⟨hD, hS⟩ := he.heap _ _ _ _ _ _ _ hr
              refine .inr (.inl ⟨r, (ahead H2 H).reverse, n2, hok.2, fun u hu => hok.1 u (List.mem_reverse.1 hu), ?_, ?_⟩)
              · rw [hp_applyU, ahead_eq hD]; exact hS
              · rw [hp_applyU, ahead_eq hD]; exact ih _ _ _ _ h
            · cases h
          · cases h
        · cases h
      · rename_i hc
        simp only [hc]
        split at h
        · rename_i v e hl
          simp only [hl]
          rw [hp_eff]; exact ih _ _ _ _ h
        · cases h
theorem evalC_sound {N : Nat} (hm : P.follows .mixedOrders = true) : ∀ (k : Nat) (c : Code) (T : TEnv) (H : LH) (n : Nat) (r : Exit × TEnv × LH × Nat), okC N c = true → evalC P ec k c T H n = some r →
    Sat P N c T (hp H) n fun x T1 h1 n1 => x = r.1 ∧ T1 = r.2.1 ∧ h1 = hp r.2.2.1 ∧ n1 = r.2.2.2 := by
  intro k
  induction k using Nat.strongRecOn with
  | _ k ihs =>
    intro c T H n r hok h
    cases k with
    | zero => simp [evalC] at h
    | succ k =>
    have ih := fun c T H n r => ihs k (Nat.lt_succ_self k) c T H n r
    cases c with
    | skip => simp only [evalC, Option.some.injEq] at h; subst h; exact Sat.skip ⟨rfl, rfl, rfl, rfl⟩
    | ret => simp only [evalC, Option.some.injEq] at h; subst h; exact Sat.ret ⟨rfl, rfl, rfl, rfl⟩
    | exit i => simp only [evalC, Option.some.injEq] at h; subst h; exact Sat.exit ⟨rfl, rfl, rfl, rfl⟩
    | seq x y =>
      simp only [okC, Bool.and_eq_true] at hok
      simp only [evalC] at h
      refine Sat.seq ?_
      split at h
      · rename_i T1 H1 n1 hx
        refine (ih x T H n _ hok.1 hx).mono ?_
        rintro e T2 h2 n2 ⟨rfl, rfl, rfl, rfl⟩
        exact ih y _ _ _ _ hok.2 h
      · rename_i hne
        refine (ih x T H n _ hok.1 h).mono ?_
        rintro e T2 h2 n2 ⟨rfl, rfl, rfl, rfl⟩
        obtain ⟨e, T1, H1, n1⟩ := r
        cases e with
        | normal => exact absurd h (hne _ _ _)
        | _ => exact ⟨rfl, rfl, rfl, rfl⟩
    | cond c x y =>
      simp only [okC, Bool.and_eq_true] at hok
      simp only [evalC] at h
      split at h
      · rename_i hc; exact Sat.cond hc (ih x _ _ _ _ hok.1 h)
      · rename_i hc; exact Sat.cond hc (ih y _ _ _ _ hok.2 h)
      · cases h
    | block i c =>
      simp only [okC] at hok
      simp only [evalC] at h
      refine Sat.block ?_
      split at h
      · rename_i j T1 H1 n1 hx
        refine (ih c T H n _ hok hx).mono ?_
        rintro e T2 h2 n2 ⟨rfl, rfl, rfl, rfl⟩
        simp only [blockA]
        split at h
        · rename_i hj; rw [if_pos hj]; cases h; exact ⟨rfl, rfl, rfl, rfl⟩
        · rename_i hj; rw [if_neg hj]; cases h; exact ⟨rfl, rfl, rfl, rfl⟩
      · rename_i hne
        refine (ih c T H n _ hok h).mono ?_
        rintro e T2 h2 n2 ⟨rfl, rfl, rfl, rfl⟩
        obtain ⟨e, T1, H1, n1⟩ := r
        cases e with
        | exit j => exact absurd h (hne _ _ _ _)
        | _ => exact ⟨rfl, rfl, rfl, rfl⟩
    | loop c =>
      simp only [okC] at hok
      refine Sat.loop (ι := Nat) (fun i T1 h1 n1 => i ≤ k + 1 ∧ ∃ T2 H1, TLe T2 T1 ∧ h1 = hp H1 ∧ evalC P ec i (.loop c) T2 H1 n1 = some r) id (k + 1) ⟨Nat.le_refl _, T, H, fun _ _ h => h, rfl, h⟩ ?_
      rintro i T1 h1 n1 ⟨hi, T2, H1, hle, rfl, hr⟩
      cases i with
      | zero => simp [evalC] at hr
      | succ i =>
        refine Sat.weaken ?_ hle
        simp only [evalC] at hr
        have hik : i ≤ k := by omega
        have body := fun r' => ihs i (by omega) c T2 H1 n1 r' hok
        split at hr
        · rename_i T3 H3 n3 hx
          refine (body _ hx).mono ?_
          rintro e T4 h4 n4 ⟨rfl, rfl, rfl, rfl⟩
          exact ⟨i, ⟨by omega, dd [] _, _, fun t v ht => dd_le _ [] t v ht rfl, rfl, hr⟩, Nat.lt_succ_self i⟩
        · rename_i hne
          refine (body _ hr).mono ?_
          rintro e T4 h4 n4 ⟨rfl, rfl, rfl, rfl⟩
          obtain ⟨e, T5, H5, n5⟩ := r
          cases e with
          | normal => exact absurd hr (hne _ _ _)
          | _ => exact ⟨rfl, rfl, rfl, rfl⟩
    | region id ops draw =>
      simp only [okC, Bool.and_eq_true, Bool.or_eq_true, Bool.not_eq_true'] at hok
      simp only [evalC] at h
      cases draw with
      | true =>
        simp only [if_true] at h
        split at h
        · rename_i T1 H1 n1 acc hx
          split at h
          · rename_i hp'
            cases h
            rcases hok.2 with h2 | h2
            · cases h2
            · refine Sat.draw (unord ops) hm h2.1 h2.2 hok.1 rfl (runDE_sound he ?_ _ _ _ _ _ hx)
              exact ⟨pairsB_sound hp', rfl, rfl, rfl, rfl⟩
          · cases h
        · cases h
      | false =>
        simp only [Bool.false_eq_true, if_false] at h
        split at h
        · rename_i T1 H1 n1 hx
          cases h
          exact Sat.region hok.1 (runE_sound he ⟨rfl, rfl, rfl, rfl⟩ _ _ _ _ hx)
        · cases h
    | _ => simp [evalC] at h
end
/-! ### The heap only grows ahead -/
section
variable {P : Program} {ec : CallE} (he : EcOK P ec)
include he
theorem runE_ext {ops : Array Oper} {T' : TEnv} {H' : LH} {n' : Nat} : ∀ (l : List Oper) (T : TEnv) (H : LH) (n : Nat), runE P ec ops l T H n = some (T', H', n') → ∃ D, H' = D ++ H := by
  intro l
  induction l with
  | nil => intro T H n h; simp only [runE, Option.some.injEq, Prod.mk.injEq] at h; obtain ⟨rfl, rfl, rfl⟩ := h; exact ⟨[], rfl⟩
  | cons o rest ih =>
    intro T H n h
    unfold runE at h
    split at h
    · cases h
    · exact ih _ _ _ h
    · split at h
      · split at h
        · split at h
          · exact ih _ _ _ h
          · exact ih _ _ _ h
          · rename_i r H2 n2 hr
            obtain ⟨D1, rfl⟩ := (he.heap _ _ _ _ _ _ _ hr).1
            obtain ⟨D2, rfl⟩ := ih _ _ _ h
            exact ⟨D2 ++ D1, by simp⟩
          · cases h
        · cases h
      · split at h
        · rename_i v e hl
          obtain ⟨D2, rfl⟩ := ih _ _ _ h
          cases e with
          | none => exact ⟨D2, rfl⟩
          | some p => exact ⟨D2 ++ [p], by simp [effE]⟩
        · cases h
theorem runDE_ext {ops : Array Oper} {T' : TEnv} {H' : LH} {n' : Nat} {acc' : List PE} : ∀ (l : List Oper) (T : TEnv) (H : LH) (n : Nat) (acc : List PE), runDE P ec ops l T H n acc = some (T', H', n', acc') → ∃ D, H' = D ++ H := by
  intro l
  induction l with
  | nil => intro T H n acc h; simp only [runDE, Option.some.injEq, Prod.mk.injEq] at h; obtain ⟨rfl, rfl, rfl, rfl⟩ := h; exact ⟨[], rfl⟩
  | cons o rest ih =>
    intro T H n acc h
    unfold runDE at h
    split at h
    · cases h
    · exact ih _ _ _ _ h
    · split at h
      · split at h
        · split at h
          · exact ih _ _ _ _ h
          · exact ih _ _ _ _ h
          · rename_i r H2 n2 hr
            split at h
            · obtain ⟨D1, rfl⟩ := (he.heap _ _ _ _ _ _ _ hr).1
              obtain ⟨D2, rfl⟩ := ih _ _ _ _ h
              exact ⟨D2 ++ D1, by simp⟩
            · cases h
          · cases h
        · cases h
      · split at h
        · rename_i v e hl
          obtain ⟨D2, rfl⟩ := ih _ _ _ _ h
          cases e with
          | none => exact ⟨D2, rfl⟩
          | some p => exact ⟨D2 ++ [p], by simp [effE]⟩
        · cases h
theorem evalC_ext : ∀ (k : Nat) (c : Code) (T : TEnv) (H : LH) (n : Nat) (r : Exit × TEnv × LH × Nat), evalC P ec k c T H n = some r → ∃ D, r.2.2.1 = D ++ H := by
  intro k
  induction k with
  | zero => intro c T H n r h; simp [evalC] at h
  | succ k ih =>
    have two : ∀ {H1 H2 H3 : LH}, (∃ D, H2 = D ++ H1) → (∃ D, H3 = D ++ H2) → ∃ D, H3 = D ++ H1 := by
      rintro H1 H2 H3 ⟨D1, rfl⟩ ⟨D2, rfl⟩; exact ⟨D2 ++ D1, by simp⟩
    intro c T H n r h
    cases c with
    | skip => simp only [evalC, Option.some.injEq] at h; subst h; exact ⟨[], rfl⟩
    | ret => simp only [evalC, Option.some.injEq] at h; subst h; exact ⟨[], rfl⟩
    | exit i => simp only [evalC, Option.some.injEq] at h; subst h; exact ⟨[], rfl⟩
    | seq x y =>
      simp only [evalC] at h
      split at h
      · rename_i T1 H1 n1 hx; exact two (ih _ _ _ _ _ hx) (ih _ _ _ _ _ h)
      · exact ih _ _ _ _ _ h
    | cond c x y =>
      simp only [evalC] at h
      split at h
      · exact ih _ _ _ _ _ h
      · exact ih _ _ _ _ _ h
      · cases h
    | block i c =>
      simp only [evalC] at h
      split at h
      · rename_i j T1 H1 n1 hx
        split at h
        · cases h; have := ih _ _ _ _ _ hx; exact this
        · cases h; have := ih _ _ _ _ _ hx; exact this
      · exact ih _ _ _ _ _ h
    | loop c =>
      simp only [evalC] at h
      split at h
      · rename_i T1 H1 n1 hx; exact two (ih _ _ _ _ _ hx) (ih _ _ _ _ _ h)
      · exact ih _ _ _ _ _ h
    | region id ops draw =>
      simp only [evalC] at h
      split at h
      · split at h
        · rename_i hx
          split at h
          · cases h; exact runDE_ext he _ _ _ _ _ hx
          · cases h
        · cases h
      · split at h
        · rename_i hx; cases h; exact runE_ext he _ _ _ _ hx
        · cases h
    | _ => simp [evalC] at h
end
/-! ### Functions -/
theorem HRel.keep {h : Heap} {m : LMap} {w w' : World} (H : HRel h m w) (hs : w.heap.size ≤ w'.heap.size) (hf : ∀ i, i < w.heap.size → w'.heap[i]? = w.heap[i]?) : HRel h m w' where
  blk L b hL := by
    obtain ⟨k, o, r, c, fr, x1, x2, x3⟩ := H.blk L b hL
    exact ⟨k, o, r, c, fr, x1, by rw [hf k (H.inb _ _ _ _ _ x1)]; exact x2, x3⟩
  sep := H.sep
  inb L g k o r hm := Nat.lt_of_lt_of_le (H.inb L g k o r hm) hs
  gens := H.gens
  gl := H.gl
  gh := H.gh
/-- The package-level variables, as a list. -/
def GLH : LH := GHL.map fun p => (p.1, ⟨p.2.1, p.2.2, 0, false⟩)
theorem hp_GLH : hp GLH = GH := by
  have : ∀ l : List (Nat × List Value × TypeId), hp (l.map fun p => (p.1, (⟨p.2.1, p.2.2, 0, false⟩ : Blk))) = gfind l := by
    intro l
    induction l with
    | nil => funext L; rfl
    | cons p r ih => obtain ⟨g, c, e⟩ := p; funext L; simp only [List.map_cons, hp, gfind, ih]
  exact this GHL
theorem lowV_rel {m : LMap} {v v' : Value} (h : VR1 m v v') (hl : lowV v = true) : VR1 (fun L g => if L < NB then m L g else none) v v' := by
  simp only [lowV, Bool.or_eq_true] at hl
  rcases hl with hl | hl
  · rw [h.eq hl]; exact VR1.refl hl
  · split at hl
    · rename_i t a
      simp only [decide_eq_true_eq] at hl
      cases h with
      | of0 h => cases h with | closed h => cases h
      | iface h => cases h with
        | closed h => cases h
        | ptr h => exact .iface (.ptr (by simp only [hl, if_true]; exact h))
    · cases hl
theorem HRel.base {h : Heap} {m : LMap} {w : World} (H : HRel h m w) : HRel GH (fun L g => if L < NB then m L g else none) w where
  blk L b hL := by
    obtain ⟨h1, h2, h3, h4⟩ := GH_mem hL
    obtain ⟨k, o, r, c, fr, x1, x2, x3, x4, x5, x6⟩ := H.blk L b (H.gh L b hL)
    have hb : L < NB := Nat.lt_of_lt_of_le h1 ng_nb
    refine ⟨k, o, r, c, fr, by simp only [hb, if_true]; exact x1, x2, x3, x4, x5, fun j v hj => ?_⟩
    obtain ⟨v', y1, y2⟩ := x6 j v hj
    exact ⟨v', y1, lowV_rel y2 (List.all_eq_true.1 h4 v (List.mem_of_getElem? hj))⟩
  sep L1 L2 b1 b2 k1 o1 r1 k2 o2 r2 _ h1 _ ho := by rw [GH_own h1] at ho; cases ho
  inb L g k o r hm := by
    split at hm
    · exact H.inb L g k o r hm
    · cases hm
  gens L b g p hL hm := by
    split at hm
    · exact H.gens L b g p (H.gh L b hL) hm
    · cases hm
  gl g hg := by
    obtain ⟨r, hr⟩ := H.gl g hg
    exact ⟨r, by simp only [Nat.lt_of_lt_of_le hg ng_nb, if_true]; exact hr⟩
  gh _ _ h := h
/-- What a function does with the package-level variables alone, it does with any heap. -/
theorem Spec.closed {P : Program} {g : FuncId} {vs : List Value} {r : Value} (hv : vs.all closed3 = true) (hr : closed3 r = true) (hs : Spec P g vs (hp GLH) NB fun r' _ _ => r' = r) : ∀ h n, Spec P g vs h n fun r' h' n' => r' = r ∧ h' = h ∧ n' = n := by
  intro h n
  refine ⟨fun m w args' ha H hd => ?_⟩
  rw [hp_GLH] at hs
  have hE := H.base
  have ha' : All2 (VR3 (fun L g => if L < NB then m L g else none)) vs args' := by
    have : args' = vs := ha.eq_closed (fun _ _ => VR3.eq) hv
    subst this
    exact All2.refl_of fun x hx => VR3.refl (List.all_eq_true.1 hv x hx)
  refine (hs.run _ w args' ha' hE (fun L g p hp => by
    split at hp
    · assumption
    · cases hp)).mono ?_
  rintro e w' ⟨r1, r', h', n', m', rfl, h2, h3, h4, h5, rfl⟩
  have hfr : ∀ i, i < w.heap.size → w'.heap[i]? = w.heap[i]? := fun i hi => h5.step.frame i hi fun L b o r hL ho => (by rw [GH_own hL] at ho; cases ho)
  refine ⟨r1, r', h, n, m, rfl, ?_, H.keep h5.step.size hfr, hd, ⟨⟨m.le_refl, h5.step.os, h5.step.tape, h5.step.output, h5.step.size, fun i hi _ => hfr i hi, fun L b k o r x y z _ => ⟨L, b, o, r, x, y, z⟩⟩, Nat.le_refl n, fun _ _ _ x => .inl ⟨_, _, x⟩⟩, rfl, rfl, rfl⟩
  rw [h2.eq hr]; exact VR3.refl hr
def ended : Exit → Bool
  | .normal | .ret => true
  | _ => false
section
variable (P : Program) (tbl : FuncId → Option Func) (orc : FuncId → List Value → Option Value) (pr : FuncId → Bool) (idf : FuncId → Bool)
/-- A function that hands back its one argument. -/
def idE (g : FuncId) : List Value → Option Value
  | [v] => if idf g then some v else none
  | _ => none
def evalF : Nat → CallE
  | 0 => fun _ _ _ _ => none
  | k + 1 => fun g vs H n =>
    match orc g vs with
    | some r => some (r, .pure)
    | none => match tbl g with
      | none => match idE idf g vs with
        | some v => some (v, .same)
        | none => none
      | some fn => match fn.body with
        | none => none
        | some c =>
          if vs.length ≤ fn.ntmps then
            if pr g && vs.all closed3 then
              match evalC P (evalF k) k c (argEnv 0 vs) GLH NB with
              | some (x, T, H', n') => if ended x then match resultsA P fn.results.toList T (hp H') with
                | some r => if closed3 r then some (r, .pure) else none
                | none => none else none
              | none => none
            else
              match evalC P (evalF k) k c (argEnv 0 vs) H n with
              | some (x, T, H', n') => if ended x then match resultsA P fn.results.toList T (hp H') with
                | some r => if closed3 r && (ahead H' H).all (fun u => decide (n ≤ u.1)) then some (r, .same) else some (r, .heap H' n')
                | none => none else none
              | none => none
          else none
structure TblOK : Prop where
  fn : ∀ g fn, tbl g = some fn → P.funcs[g]? = some fn ∧ (fn.name == "runtime.NumGoroutine") = false ∧ ∀ c, fn.body = some c → okC fn.ntmps c = true
  orc : ∀ g vs r, orc g vs = some r → Pure P g vs r
  idf : ∀ g, idf g = true → ∀ v h n, Spec P g [v] h n fun r' h' n' => r' = v ∧ h' = h ∧ n' = n
  mixed : P.follows .mixedOrders = true
end
/-- A function without a body that hands back its one argument. -/
theorem Spec.same_extern {P : Program} {g : FuncId} {fn : Func} {e : Array Value → Sem Value} (hf : P.funcs[g]? = some fn) (hname : (fn.name == "runtime.NumGoroutine") = false)
    (hb : fn.body.isNone = true) (hn : Extern.findNext fn = none) (he : Extern.find fn = some e) (hrun : ∀ v w, (e #[v]).run P w = .ok v w) (v : Value) (h : Heap) (n : Nat) : Spec P g [v] h n fun r' h' n' => r' = v ∧ h' = h ∧ n' = n :=
  ⟨fun m w args' hargs H hd => by
    cases hargs with | @cons _ v' _ bs h1 h2 =>
    cases h2
    exact .inr ⟨v', w, by rw [run_callFunc_extern hf hname hb hn he, hrun]; rfl, v, v', h, n, m, rfl, h1, H, hd, Mv.refl h m w n, rfl, rfl, rfl⟩⟩
theorem evalF_sound {P : Program} {tbl : FuncId → Option Func} {orc : FuncId → List Value → Option Value} {pr idf : FuncId → Bool} (ht : TblOK P tbl orc idf) : ∀ k, EcOK P (evalF P tbl orc pr idf k) := by
  intro k
  induction k with
  | zero => exact ⟨fun g vs H n r h => (by cases h), fun g vs H n r h => (by cases h), fun g vs H n r H' n' h => (by cases h)⟩
  | succ k ih =>
    -- the run of a body
    have run : ∀ {g vs fn c H n x T H' n' r}, tbl g = some fn → fn.body = some c → vs.length ≤ fn.ntmps → evalC P (evalF P tbl orc pr idf k) k c (argEnv 0 vs) H n = some (x, T, H', n') → ended x = true → resultsA P fn.results.toList T (hp H') = some r →
        Spec P g vs (hp H) n fun r' h' n1 => r' = r ∧ h' = hp H' ∧ n1 = n' := by
      intro g vs fn c H n x T H' n' r hf hb hl he hx hr
      obtain ⟨h1, h2, h3⟩ := ht.fn g fn hf
      refine Spec.of_body h1 hb h2 hl ((evalC_sound ih ht.mixed k c _ H n _ (h3 c hb) he).mono ?_)
      rintro x' T' h' n1 ⟨rfl, rfl, rfl, rfl⟩
      refine ⟨?_, r, hr, rfl, rfl, rfl⟩
      cases x' <;> simp [ended] at hx
      · exact .inl rfl
      · exact .inr rfl
    constructor
    · intro g vs H n r h
      simp only [evalF] at h
      split at h
      · rename_i r' ho; cases h; exact fun h n => ht.orc _ _ _ ho h n
      · split at h
        · split at h <;> cases h
        · rename_i fn hf
          split at h
          · cases h
          · rename_i c hb
            split at h
            · rename_i hl
              split at h
              · rename_i hp'
                simp only [Bool.and_eq_true] at hp'
                split at h
                · rename_i he
                  split at h
                  · rename_i hx
                    split at h
                    · rename_i hr
                      split at h
                      · rename_i hc
                        cases h
                        exact Spec.closed hp'.2 hc ((run hf hb hl he hx hr).mono fun _ _ _ h => h.1)
                      · cases h
                    · cases h
                  · cases h
                · cases h
              · split at h
                · split at h
                  · split at h
                    · split at h <;> cases h
                    · cases h
                  · cases h
                · cases h
            · cases h
    · intro g vs H n r h
      simp only [evalF] at h
      split at h
      · cases h
      · split at h
        · split at h
          · rename_i v hv
            cases h
            unfold idE at hv
            split at hv
            · split at hv
              · rename_i hi; cases hv; exact ht.idf g hi _ _ _
              · cases hv
            · cases hv
          · cases h
        · rename_i fn hf
          split at h
          · cases h
          · rename_i c hb
            split at h
            · rename_i hl
              split at h
              · split at h
                · split at h
                  · split at h
                    · split at h <;> cases h
                    · cases h
                  · cases h
                · cases h
              · split at h
                · rename_i he
                  split at h
                  · rename_i hx
                    split at h
                    · rename_i hr
                      split at h
                      · rename_i hc
                        cases h
                        simp only [Bool.and_eq_true] at hc
                        have hD := evalC_ext ih _ _ _ _ _ _ he
                        simp only at hD
                        refine Spec.pure ((run hf hb hl he hx hr).mono ?_)
                        rintro r' h' n1 ⟨rfl, rfl, rfl⟩
                        refine ⟨rfl, hc.1, ?_⟩
                        rw [← ahead_eq hD]; exact hp_old hc.2
                      · cases h
                    · cases h
                  · cases h
                · cases h
            · cases h
    · intro g vs H n r H' n' h
      simp only [evalF] at h
      split at h
      · cases h
      · split at h
        · split at h <;> cases h
        · rename_i fn hf
          split at h
          · cases h
          · rename_i c hb
            split at h
            · rename_i hl
              split at h
              · split at h
                · split at h
                  · split at h
                    · split at h <;> cases h
                    · cases h
                  · cases h
                · cases h
              · split at h
                · rename_i he
                  split at h
                  · rename_i hx
                    split at h
                    · rename_i hr
                      split at h
                      · cases h
                      · cases h
                        have hD := evalC_ext ih _ _ _ _ _ _ he
                        exact ⟨hD, run hf hb hl he hx hr⟩
                    · cases h
                  · cases h
                · cases h
            · cases h
def okF (fn : Func) : Bool := !(fn.name == "runtime.NumGoroutine") && match fn.body with | some c => okC fn.ntmps c | none => true
/-- The functions that the evaluator enters. -/
def TblL (P : Program) : List (Nat × Func) → Prop
  | [] => True
  | p :: r => (P.funcs[p.1]? = some p.2 ∧ okF p.2 = true) ∧ TblL P r
theorem TblL.get {P : Program} : ∀ {l : List (Nat × Func)}, TblL P l → ∀ {g fn}, l.lookup g = some fn → P.funcs[g]? = some fn ∧ (fn.name == "runtime.NumGoroutine") = false ∧ ∀ c, fn.body = some c → okC fn.ntmps c = true
  | [], _, g, fn, h => by cases h
  | (k, f) :: r, hl, g, fn, h => by
    simp only [List.lookup] at h
    split at h
    · rename_i hg
      have : g = k := by simpa using hg
      subst this; cases h
      have h2 := hl.1.2
      simp only [okF, Bool.and_eq_true, Bool.not_eq_true'] at h2
      refine ⟨hl.1.1, h2.1, fun c hc => ?_⟩
      have h3 := h2.2
      rw [hc] at h3; exact h3
    · exact TblL.get hl.2 h
theorem Pure.eval {P : Program} {tbl : FuncId → Option Func} {orc : FuncId → List Value → Option Value} {pr idf : FuncId → Bool} (ht : TblOK P tbl orc idf) (k : Nat) {g : FuncId} {vs : List Value} {r : Value} (h : evalF P tbl orc pr idf k g vs GLH NB = some (r, .pure)) : Pure P g vs r :=
  fun h1 n1 => (evalF_sound ht k).pure _ _ _ _ _ h h1 n1
end Go.Dm
