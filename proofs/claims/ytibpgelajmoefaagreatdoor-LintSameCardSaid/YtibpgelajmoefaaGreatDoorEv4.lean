/- Constants, operands, parts of rows. -/
import Derived.Test.YtibpgelajmoefaaGreatDoorEv3
import Derived.Laws.Cells
namespace Go.Ev
variable {Λ : Laid}

theorem cv0_ok {ρ : Rho} {V : Value} {v : AV} (h : cv0 V = some v) : VR ρ v V ∧ scalar V := by
  unfold cv0 at h
  split at h <;> first
    | (cases h; done)
    | (simp only [Option.some.injEq] at h; subst h; simp [VR, scalar, FnR, VRL]; done)
    | (simp only [Option.some.injEq] at h; subst h; simp only [VR]; exact ⟨⟨_, _, _, rfl, rfl, .nil, .nil⟩, trivial⟩)

theorem seqL_ok {ρ : Rho} : ∀ {L : List Value} {l : List AV}, seqL (L.map cv0) = some l → VRL ρ l L ∧ ∀ X ∈ L, scalar X
  | [], l, h => by simp [seqL] at h; subst h; exact ⟨.nil, by simp⟩
  | V :: L, l, h => by
    simp only [List.map_cons] at h
    cases hv : cv0 V with
    | none => rw [hv] at h; simp [seqL] at h
    | some v =>
      rw [hv] at h
      simp only [seqL] at h
      cases hl : seqL (L.map cv0) with
      | none => rw [hl] at h; simp at h
      | some r =>
        rw [hl] at h
        simp only [Option.some.injEq] at h
        subst h
        obtain ⟨a, b⟩ := cv0_ok (ρ := ρ) hv
        obtain ⟨c, d⟩ := seqL_ok (ρ := ρ) hl
        exact ⟨.cons a c, by simpa using ⟨b, d⟩⟩

theorem cv_ok {ρ : Rho} {V : Value} {v : AV} (h : cv V = some v) : VR ρ v V := by
  unfold cv at h
  split at h
  · rename_i cs
    cases hl : seqL (cs.toList.map cv0) with
    | none => rw [hl] at h; simp at h
    | some r =>
      rw [hl] at h
      simp only [Option.some.injEq] at h
      subst h
      obtain ⟨c, d⟩ := seqL_ok (ρ := ρ) hl
      simp only [VR]
      exact ⟨cs, rfl, c, d⟩
  · simp only [Option.some.injEq] at h
    subst h
    simp only [VR]
    exact ⟨_, rfl, .nil⟩
  · exact (cv0_ok h).1

/-- What the frame's operands come to. -/
def OpR (ρ : Rho) (N : Nat) (e : Env) (ev : Operand → Value) : Prop := ∀ x v, opd N e x = some v → VR ρ v (ev x)

theorem opd_ok {ρ : Rho} {N : Nat} {e : Env} {a : Act} (hg : ∀ g, g < N → ∃ c, ρ g = some ⟨g, 0, c⟩) (he : EnvR ρ e a.tmps) : OpR ρ N e a.eval := by
  intro x v h
  cases x with
  | tmp t => exact he t v h
  | const c => exact cv_ok h
  | global g =>
    simp only [opd] at h
    cases hb : Nat.blt g N with
    | false => rw [hb] at h; simp at h
    | true =>
      rw [hb] at h
      simp only [cond_true, Option.some.injEq] at h
      subst h
      obtain ⟨c, e⟩ := hg g (by simpa [Nat.blt_eq] using hb)
      simp only [VR]
      exact ⟨_, e, rfl⟩
  | func f =>
    simp only [opd, Option.some.injEq] at h
    subst h
    simp only [VR]
    exact ⟨_, _, _, rfl, rfl, .nil, .nil⟩

theorem opds_ok {ρ : Rho} {N : Nat} {e : Env} {ev : Operand → Value} : ∀ {xs : List Operand} {vs : List AV}, (∀ x ∈ xs, ∀ v, opd N e x = some v → VR ρ v (ev x)) → opds N e xs = some vs → VRL ρ vs (xs.map ev)
  | [], vs, _, h => by simp [opds] at h; subst h; exact .nil
  | x :: xs, vs, ho, h => by
    simp only [opds] at h
    cases hv : opd N e x with
    | none => rw [hv] at h; simp at h
    | some v =>
      rw [hv] at h
      cases hl : opds N e xs with
      | none => rw [hl] at h; simp at h
      | some r =>
        rw [hl] at h
        simp only [Option.some.injEq] at h
        subst h
        exact .cons (ho x (.head _) v hv) (opds_ok (fun y hy => ho y (.tail _ hy)) hl)

/-- Parts, each with its place. -/
def PartsR (ρ : Rho) (l : List (Nat × AV)) (L : List (Nat × Value)) : Prop :=
  L.length = l.length ∧ ∀ (j : Nat) (x : Nat × AV), l[j]? = some x → ∃ X, L[j]? = some X ∧ X.1 = x.1 ∧ VR ρ x.2 X.2

theorem PartsR.tail {ρ : Rho} {x : Nat × AV} {l : List (Nat × AV)} {X : Nat × Value} {L : List (Nat × Value)} (h : PartsR ρ (x :: l) (X :: L)) : X.1 = x.1 ∧ VR ρ x.2 X.2 ∧ PartsR ρ l L := by
  obtain ⟨h1, h2⟩ := h
  obtain ⟨X', e, a, b⟩ := h2 0 x rfl
  simp at e
  subst e
  exact ⟨a, b, by simpa using h1, fun j y hy => by simpa using h2 (j + 1) y (by simpa using hy)⟩

theorem opParts_ok {ρ : Rho} {N : Nat} {e : Env} {ev : Operand → Value} : ∀ {xs : List (Nat × Operand)} {vs : List (Nat × AV)}, (∀ p ∈ xs, ∀ v, opd N e p.2 = some v → VR ρ v (ev p.2)) → opParts N e xs = some vs →
    PartsR ρ vs (xs.map fun p => (p.1, ev p.2))
  | [], vs, _, h => by simp [opParts] at h; subst h; exact ⟨rfl, by simp⟩
  | (i, x) :: xs, vs, ho, h => by
    simp only [opParts] at h
    cases hv : opd N e x with
    | none => rw [hv] at h; simp at h
    | some v =>
      rw [hv] at h
      cases hl : opParts N e xs with
      | none => rw [hl] at h; simp at h
      | some r =>
        rw [hl] at h
        simp only [Option.some.injEq] at h
        subst h
        obtain ⟨h1, h2⟩ := opParts_ok (fun y hy => ho y (.tail _ hy)) hl
        refine ⟨by simpa using h1, fun j y hy => ?_⟩
        cases j with
        | zero => simp at hy; subst hy; exact ⟨_, rfl, rfl, ho (i, x) (.head _) v hv⟩
        | succ j => simpa using h2 j y (by simpa using hy)

/-- The cells of a value. -/
theorem cells_ok {ρ : Rho} {v : AV} {V : Value} {l : List AV} (h : VR ρ v V) (hc : v.cells = some l) : VRL ρ l V.cells.toList ∧ ∀ X ∈ V.cells.toList, scalar X := by
  cases v <;> simp only [AV.cells, Option.some.injEq, reduceCtorEq] at hc
  case agg cs =>
    subst hc
    simp only [VR] at h
    obtain ⟨C, rfl, a, b⟩ := h
    exact ⟨a, b⟩
  all_goals
    subst hc
    have h' := h
    simp only [VR] at h'
    first
      | (subst h'; exact ⟨.cons h .nil, by simp [Value.cells, scalar]⟩)
      | (obtain ⟨_, rfl, _⟩ := h'; exact ⟨.cons h .nil, by simp [Value.cells, scalar]⟩)
      | (obtain ⟨_, _, rfl⟩ := h'; exact ⟨.cons h .nil, by simp [Value.cells, scalar]⟩)
      | (obtain ⟨_, _, _, rfl, _⟩ := h'; exact ⟨.cons h .nil, by simp [Value.cells, scalar]⟩)
      | (obtain ⟨_, _, _, _, rfl, _⟩ := h'; exact ⟨.cons h .nil, by simp [Value.cells, scalar]⟩)

section types
variable {P : Program} {w : World} {t : TypeId}
theorem r_und {d : TypeDesc} (h : P.underlying t = some d) : (underlying t).run P w = .ok d w := by
  simp [underlying, h]
theorem r_size {n : Nat} (h : szT P t = some n) : (sizeOf t).run P w = .ok n w := by
  unfold szT at h
  split at h
  · rename_i i hi
    simp only [Option.some.injEq] at h
    simp [sizeOf, typeInfo, hi, h]
  · cases h
theorem r_isAgg {b : Bool} (h : isAggT P t = some b) : (isAgg t).run P w = .ok b w := by
  unfold isAggT at h
  split at h <;> first
    | (cases h; done)
    | (rename_i hd; simp only [Option.some.injEq] at h; subst h; simp [isAgg, r_und hd]; done)
    | (rename_i d h1 h2 hd
       simp only [Option.some.injEq] at h
       subst h
       simp only [isAgg, Sem.run_bind, r_und hd, Result.andThen_ok]
       split
       · exact absurd rfl (h1 _)
       · exact absurd rfl (h2 _ _)
       · rfl)
theorem r_zero {ρ : Rho} {z : AV} (h : zT P t = some z) : ∃ Z, (zeroValue t).run P w = .ok Z w ∧ VR ρ z Z := by
  unfold zT at h
  split at h
  · rename_i i hi
    split at h
    · rename_i Z hz
      exact ⟨Z, by simp [zeroValue, typeInfo, hi, hz], cv_ok h⟩
    · cases h
  · cases h
theorem r_info {n : Nat} (h : byT P t = some n) : ∃ i, (typeInfo t).run P w = .ok i w ∧ i.bytes = n := by
  unfold byT at h
  split at h
  · rename_i i hi
    simp only [Option.some.injEq] at h
    exact ⟨i, by simp [typeInfo, hi], h⟩
  · cases h
end types

theorem cut_ok {α : Type} {l r : List α} {o n : Nat} (h : cut l o n = some r) : r = (l.drop o).take n ∧ r.length = n := by
  unfold cut at h
  cases hb : Nat.beq ((l.drop o).take n).length n with
  | false => simp only [hb, cond_false] at h; cases h
  | true =>
    simp only [hb, cond_true, Option.some.injEq] at h
    subst h
    exact ⟨rfl, Nat.eq_of_beq_eq_true hb⟩

theorem lay_ok {α : Type} {l r vs : List α} {o : Nat} (h : lay l o vs = some r) : o + vs.length ≤ l.length ∧ r = l.take o ++ (vs ++ l.drop (o + vs.length)) := by
  unfold lay at h
  cases hb : Nat.ble (o + vs.length) l.length with
  | false => simp only [hb, cond_false] at h; cases h
  | true =>
    simp only [hb, cond_true, Option.some.injEq] at h
    exact ⟨Nat.le_of_ble_eq_true hb, h.symm⟩

theorem lay_get {α : Type} {l r vs : List α} {o : Nat} (h : lay l o vs = some r) (i : Nat) : r[i]? = if i < o then l[i]? else if i < o + vs.length then vs[i - o]? else l[i]? := by
  obtain ⟨h1, rfl⟩ := lay_ok h
  by_cases a : i < o
  · rw [List.getElem?_append_left (by simp; omega)]
    simp [a]
  · rw [List.getElem?_append_right (by simp; omega)]
    have : (l.take o).length = o := by simp; omega
    rw [this]
    by_cases b : i < o + vs.length
    · rw [List.getElem?_append_left (by omega)]
      simp [a, b]
    · rw [List.getElem?_append_right (by omega)]
      simp [a, b]
      congr 1
      omega

theorem lay_length {α : Type} {l r vs : List α} {o : Nat} (h : lay l o vs = some r) : r.length = l.length := by
  obtain ⟨h1, rfl⟩ := lay_ok h
  simp
  omega

/-- Loading and laying rows of related cells. -/
theorem VRL.lay {ρ : Rho} {l r vs : List AV} {L Vs : List Value} {o : Nat} (h : lay l o vs = some r) (a : VRL ρ l L) (b : VRL ρ vs Vs) : ∃ R, lay L o Vs = some R ∧ VRL ρ r R := by
  obtain ⟨h1, rfl⟩ := lay_ok h
  have hl := a.length
  have hv := b.length
  refine ⟨L.take o ++ (Vs ++ L.drop (o + Vs.length)), ?_, ?_⟩
  · unfold Ev.lay
    have : Nat.ble (o + Vs.length) L.length = true := Nat.ble_eq_true_of_le (by omega)
    rw [this]; rfl
  · rw [hv]
    exact (a.take o).append (b.append (a.drop _))

end Go.Ev
