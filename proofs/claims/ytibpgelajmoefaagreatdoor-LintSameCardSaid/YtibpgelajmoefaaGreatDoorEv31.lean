/- Drawn regions: any order. -/
import Derived.Test.YtibpgelajmoefaaGreatDoorEv30
namespace Go.Ev
variable {Λ : Laid}

def ins (D : Nat → Bool) (i : Nat) : Nat → Bool := fun j => D j || j == i
theorem ins_iff {D : Nat → Bool} {i j : Nat} : ins D i j = true ↔ D j = true ∨ j = i := by simp [ins]
theorem ins_not {D : Nat → Bool} {i j : Nat} : ins D i j = false ↔ D j = false ∧ j ≠ i := by simp [ins]

/-- What is given. -/
structure Fix (Λ : Laid) (P : Program) (rec : Req → Out) (ops : Array Oper) (T : List TE) (e0 : Env) (h0 : Hp) (d0 : List AD) (E : Env) (hf : Hp) (df : List AD) : Prop where
  plan : PlanOk ops.toList (T.map TE.p)
  ch : Chain P rec ops.toList T e0 h0 d0 [] E hf df
  le : EvLe rec
  g : EvG rec
  call : CallRuns Λ P rec

section
variable {P : Program} {rec : Req → Out} {ops : Array Oper} {T : List TE} {e0 E : Env} {h0 hf : Hp} {d0 df : List AD} (F : Fix Λ P rec ops T e0 h0 d0 E hf df)
include F

theorem Fix.mem {τ : TE} (h : τ ∈ T) : ops.toList[τ.p.i]? = some τ.p.o ∧ τ.p.b = lk (befs ops.toList []) τ.p.i ∧ τ.p.c = clsOf τ.p.o.op := F.plan.mem _ (List.mem_map_of_mem h)
theorem Fix.ok {τ : TE} (h : τ ∈ T) : TOk P rec ops.toList τ := F.ch.ok τ h
theorem Fix.once {A B : List TE} {τ : TE} (h : T = A ++ τ :: B) : (∀ σ ∈ A, σ.p.i ≠ τ.p.i) ∧ ∀ σ ∈ B, σ.p.i ≠ τ.p.i := by
  refine ⟨fun σ hσ => F.plan.once (A.map TE.p) τ.p (B.map TE.p) (by simp [h]) _ (List.mem_map_of_mem hσ), fun σ hσ => ?_⟩
  obtain ⟨l1, l2, rfl⟩ := List.append_of_mem hσ
  exact (F.plan.once ((A ++ τ :: l1).map TE.p) σ.p (l2.map TE.p) (by simp [h]) τ.p (List.mem_map_of_mem (by simp))).symm
theorem Fix.uniq {τ σ : TE} (hτ : τ ∈ T) (hσ : σ ∈ T) (h : σ.p.i = τ.p.i) : σ = τ := by
  obtain ⟨A, B, e⟩ := List.append_of_mem hτ
  obtain ⟨h1, h2⟩ := F.once e
  rw [e] at hσ
  rcases List.mem_append.1 hσ with q | q
  · exact absurd h (h1 _ q)
  · cases q with
    | head => rfl
    | tail _ q => exact absurd h (h2 _ q)
theorem Fix.anc {A B : List TE} {τ : TE} (h : T = A ++ τ :: B) {j : Nat} (hj : bit τ.p.b j = true) : ∃ σ ∈ A, σ.p.i = j := by
  obtain ⟨q, hq, e⟩ := F.plan.anc (A.map TE.p) τ.p (B.map TE.p) (by simp [h]) j hj
  obtain ⟨σ, hσ, rfl⟩ := List.mem_map.1 hq
  exact ⟨σ, hσ, e⟩
theorem Fix.acts {A B : List TE} {τ : TE} (h : T = A ++ τ :: B) {σ : TE} (hσ : σ ∈ A) (hc : 1 < σ.p.c) : τ.p.c = 0 ∨ τ.p.c = 3 ∨ bit τ.p.b σ.p.i = true :=
  F.plan.acts (A.map TE.p) τ.p (B.map TE.p) (by simp [h]) σ.p (List.mem_map_of_mem hσ) hc
theorem Fix.cover {i : Nat} (h : i < ops.size) : ∃ τ ∈ T, τ.p.i = i := by
  obtain ⟨p, hp, e⟩ := F.plan.cover i (by rw [Array.length_toList]; exact h)
  obtain ⟨τ, hτ, rfl⟩ := List.mem_map.1 hp
  exact ⟨τ, hτ, e⟩
theorem Fix.tidy {τ σ : TE} (hτ : τ ∈ T) (hσ : σ ∈ T) {t : Tmp} (ht : t ∈ tmpsOf ops.toList τ.p.o) (hd : σ.p.o.dst = some t) : σ.p.i = τ.p.i ∨ bit τ.p.b σ.p.i = true ∨ bit σ.p.b τ.p.i = true :=
  F.plan.tidy _ (List.mem_map_of_mem hτ) _ (List.mem_map_of_mem hσ) t ht hd
theorem Fix.lone {τ σ : TE} (hτ : τ ∈ T) (hσ : σ ∈ T) {t : Tmp} (ht : τ.p.o.dst = some t) (hd : σ.p.o.dst = some t) : σ = τ :=
  F.uniq hτ hσ (F.plan.lone _ (List.mem_map_of_mem hτ) _ (List.mem_map_of_mem hσ) t ht hd)
theorem Fix.ancD {D : Nat → Bool} (hc : Closed ops.toList D) {τ : TE} (hτ : τ ∈ T) (hdir : ∀ j, Dir τ.p.o j → D j = true) {j : Nat} (hj : bit τ.p.b j = true) : D j = true :=
  Closed.anc F.plan.down τ.p.i (F.mem hτ).1 hdir hc j (by rw [← (F.mem hτ).2.1]; exact hj)
theorem Fix.closed_ins {D : Nat → Bool} (hc : Closed ops.toList D) {τ : TE} (hτ : τ ∈ T) (hdir : ∀ j, Dir τ.p.o j → D j = true) : Closed ops.toList (ins D τ.p.i) := by
  intro i o ho hi j hj
  rw [ins_iff] at hi ⊢
  rcases hi with hi | rfl
  · exact .inl (hc i o ho hi j hj)
  · have := (F.mem hτ).1.symm.trans ho
    injection this with this
    subst this
    exact .inl (hdir j hj)
theorem Fix.dirOf {D : Nat → Bool} (hc : Closed ops.toList D) {τ : TE} (hτ : τ ∈ T) (hD : D τ.p.i = true) : ∀ j, Dir τ.p.o j → D j = true := fun j hj => hc _ _ (F.mem hτ).1 hD j hj

omit F in
/-- The slots. -/
structure EnvS (T : List TE) (e0 E : Env) (ρ : Rho) (D : Nat → Bool) (t : Array Value) : Prop where
  wr : ∀ τ ∈ T, D τ.p.i = true → ∀ s, τ.p.o.dst = some s → ∀ v, Env.get E s = some v → VR ρ v (t.getD s undef)
  un : ∀ s, (∀ τ ∈ T, D τ.p.i = true → τ.p.o.dst ≠ some s) → ∀ v, Env.get e0 s = some v → VR ρ v (t.getD s undef)

theorem EnvS.look {ρ : Rho} {D : Nat → Bool} {t : Array Value} (hs : EnvS T e0 E ρ D t) (hc : Closed ops.toList D) {τ : TE} (hτ : τ ∈ T) (hD : D τ.p.i = false) (hdir : ∀ j, Dir τ.p.o j → D j = true) :
    ∀ s ∈ tmpsOf ops.toList τ.p.o, ∀ v, Env.get τ.e s = some v → VR ρ v (t.getD s undef) := by
  intro s hsm v hv
  obtain ⟨A, B, e⟩ := List.append_of_mem hτ
  have noBack : ∀ σ ∈ A, bit σ.p.b τ.p.i = false := by
    intro σ hσ
    cases hb : bit σ.p.b τ.p.i with
    | false => rfl
    | true =>
      exfalso
      obtain ⟨l1, l2, rfl⟩ := List.append_of_mem hσ
      obtain ⟨x, hx, ex⟩ := F.anc (A := l1) (τ := σ) (B := l2 ++ τ :: B) (by simp [e]) hb
      exact (F.once e).1 x (by simp [hx]) ex
  by_cases hex : ∃ σ ∈ T, D σ.p.i = true ∧ σ.p.o.dst = some s
  · obtain ⟨σ, hσ, hDσ, hd⟩ := hex
    have hbit : bit τ.p.b σ.p.i = true := by
      rcases F.tidy hτ hσ hsm hd with h | h | h
      · rw [h, hD] at hDσ; cases hDσ
      · exact h
      · have := F.ancD hc hσ (F.dirOf hc hσ hDσ) h
        rw [hD] at this; cases this
    obtain ⟨σ', hσ', ei⟩ := F.anc e hbit
    have : σ = σ' := F.uniq (by rw [e]; simp [hσ']) hσ ei.symm
    subst this
    have hn : ∀ x ∈ τ :: B, x.p.o.dst ≠ some s := by
      intro x hx hxd
      have hxT : x ∈ T := by rw [e]; simp only [List.mem_append]; exact .inr hx
      have := F.lone hσ hxT hd hxd
      subst this
      obtain ⟨l1, l2, hl⟩ := List.append_of_mem hσ'
      have := (F.once (A := l1) (τ := x) (B := l2 ++ τ :: B) (by rw [e, hl]; simp)).2 x (by simp only [List.mem_append]; exact .inr hx)
      exact this rfl
    have := F.ch
    rw [e] at this
    rw [← this.envEnd s hn] at hv
    exact hs.wr σ hσ hDσ s hd v hv
  · have hn : ∀ σ ∈ A, σ.p.o.dst ≠ some s := by
      intro σ hσ hd
      have hσT : σ ∈ T := by rw [e]; simp [hσ]
      rcases F.tidy hτ hσT hsm hd with h | h | h
      · exact (F.once e).1 σ hσ h
      · exact hex ⟨σ, hσT, F.ancD hc hτ hdir h, hd⟩
      · rw [noBack σ hσ] at h; cases h
    have := F.ch
    rw [e] at this
    rw [this.envAt s hn] at hv
    exact hs.un s (fun σ hσ hDσ hd => hex ⟨σ, hσ, hDσ, hd⟩) v hv

theorem EnvS.put {ρ ρ' : Rho} {D : Nat → Bool} {t : Array Value} (hs : EnvS T e0 E ρ D t) (hsub : Sub ρ ρ') {τ : TE} (hτ : τ ∈ T) {V : Value} (hv : VR ρ' τ.v V) (hd : dstOk t.size τ.p.o.dst = true) :
    EnvS T e0 E ρ' (ins D τ.p.i) (putT t τ.p.o.dst V) := by
  have hne : ∀ s, τ.p.o.dst ≠ some s → (putT t τ.p.o.dst V).getD s undef = t.getD s undef := by
    intro s h
    cases hdd : τ.p.o.dst with
    | none => rfl
    | some d =>
      rw [hdd] at h
      simp [putT, Array.getD_eq_getD_getElem?, Array.getElem?_setIfInBounds_ne (fun q : d = s => h (by rw [q]))]
  constructor
  · intro σ hσ hDσ s hsd v hv'
    by_cases e : σ.p.i = τ.p.i
    · have := F.uniq hτ hσ e
      subst this
      obtain ⟨A, B, e⟩ := List.append_of_mem hσ
      have hc := F.ch
      rw [e] at hc
      have := hc.envPut s hsd (fun x hx hxd => by
        have h1 := F.lone hσ (by rw [e]; simp [hx]) hsd hxd
        exact (F.once e).2 x hx (by rw [h1])) hv'
      subst this
      rw [hsd] at hd ⊢
      have hlt : s < t.size := by rw [← blt_iff]; exact hd
      simpa [putT, Array.getD_eq_getD_getElem?, hlt] using hv
    · rw [ins_iff] at hDσ
      rcases hDσ with hDσ | h
      · rw [hne s fun h => e (by rw [F.lone hσ hτ hsd h])]
        exact (hs.wr σ hσ hDσ s hsd v hv').mono hsub
      · exact absurd h e
  · intro s hn v hv'
    have h1 : τ.p.o.dst ≠ some s := hn τ hτ (ins_iff.2 (.inr rfl))
    rw [hne s h1]
    exact (hs.un s (fun σ hσ hDσ => hn σ hσ (ins_iff.2 (.inl hDσ))) v hv').mono hsub

end
end Go.Ev
