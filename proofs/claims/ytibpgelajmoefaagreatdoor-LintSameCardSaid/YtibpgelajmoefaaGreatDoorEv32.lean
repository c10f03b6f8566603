/- Drawn regions: any order, step by step. -/
import Derived.Test.YtibpgelajmoefaaGreatDoorEv31
namespace Go.Ev
variable {Λ : Laid}

def Here (i : Nat) : Prop := ∀ (t : Tr AO) x, getF 22 (setF 22 t i x) i = some x

def PendT (D : Nat → Bool) (τ : TE) : Prop := D τ.p.i = true ∧ τ.want = true ∧ τ.p.c = 3

/-- How things stand: the plan's part A is behind, B is ahead; the operations of D are done. -/
structure St (P : Program) (rec : Req → Out) (ops : Array Oper) (T : List TE) (e0 : Env) (h0 : Hp) (E : Env) (hf : Hp) (df : List AD) (base : Bs Λ) (n : Nat) (ρ0 : Rho) (w0 : World)
    (A B : List TE) (D : Nat → Bool) (ρ : Rho) (w : World) (t : Array Value) (ds : List Deferred) (e1 : Env) (h1 : Hp) (d1 : List AD) (W1 : List Watch) : Prop where
  split : T = A ++ B
  run : Chain P rec ops.toList B e1 h1 d1 W1 E hf df
  closed : Closed ops.toList D
  preD : ∀ τ ∈ A, 1 < τ.p.c → D τ.p.i = true
  sufD : ∀ τ ∈ B, D τ.p.i = true → τ.p.c = 0 ∨ τ.p.c = 3
  rel : Rel ρ base h1 w
  dfs : DefR ρ d1 ds
  size : t.size = n
  env : EnvS T e0 E ρ D t
  todo : ∀ τ ∈ A, D τ.p.i = false → τ.want = true → τ.p.c = 1 → (τ.p.i, τ.e, τ.p.o, τ.v) ∈ W1 ∧ aop P τ.e h1 τ.p.o = .val τ.v h1
  pend : ∀ τ ∈ B, PendT D τ → Here (τ.h.next + 1) → ∃ o l, τ.h2 = τ.h.bump.new o ∧ Pd ρ base h1 w (τ.h.next + 1) o l ∧ Old ρ0 h0 w0 l
  pdis : ∀ τ ∈ B, ∀ σ ∈ B, PendT D τ → PendT D σ → Here (τ.h.next + 1) → Here (σ.h.next + 1) → τ.h.next ≠ σ.h.next → ∀ l l', ρ (τ.h.next + 1) = some l → ρ (σ.h.next + 1) = some l' → l.b ≠ l'.b
  fresh : ∀ i, h1.next ≤ i → i ≤ hf.next → (∀ τ ∈ B, PendT D τ → i ≠ τ.h.next + 1) → ρ i = none
  base0 : h0.next ≤ h1.next
  stp : Step ρ0 h0 w0 ρ (h1.upto hf.next) w

theorem Chain.pair {P : Program} {rec : Req → Out} {L : List Oper} (hle : EvLe rec) : ∀ {T : List TE} {e : Env} {h : Hp} {d : List AD} {W : List Watch} {e' : Env} {h' : Hp} {d' : List AD}, Chain P rec L T e h d W e' h' d' → ∀ A τ B, T = A ++ τ :: B → ∀ σ ∈ B, τ.h2.next ≤ σ.h.next
  | [], _, _, _, _, _, _, _, _, A, τ, B, hT, σ, _ => by cases A <;> cases hT
  | x :: T, _, _, _, _, _, _, _, c, A, τ, B, hT, σ, hσ => by
    cases A with
    | nil =>
      simp only [List.nil_append, List.cons.injEq] at hT
      obtain ⟨rfl, rfl⟩ := hT
      exact ((Chain.le hle c.2.2.2.2.2).2 σ hσ).1
    | cons y A =>
      simp only [List.cons_append, List.cons.injEq] at hT
      exact Chain.pair hle c.2.2.2.2.2 A τ B hT.2 σ hσ

theorem Chain.two {P : Program} {rec : Req → Out} {L : List Oper} (hle : EvLe rec) {T : List TE} {e : Env} {h : Hp} {d : List AD} {W : List Watch} {e' : Env} {h' : Hp} {d' : List AD} (c : Chain P rec L T e h d W e' h' d') {τ σ : TE} (hτ : τ ∈ T) (hσ : σ ∈ T) (hne : σ ≠ τ) : τ.h2.next ≤ σ.h.next ∨ σ.h2.next ≤ τ.h.next := by
  obtain ⟨A, B, rfl⟩ := List.append_of_mem hτ
  rcases List.mem_append.1 hσ with h | h
  · obtain ⟨l1, l2, rfl⟩ := List.append_of_mem h
    exact .inr (c.pair hle l1 σ (l2 ++ τ :: B) (by simp) τ (by simp))
  · cases h with
    | head => exact absurd rfl hne
    | tail _ h => exact .inl (c.pair hle A τ B rfl σ h)

section
variable {P : Program} {rec : Req → Out} {ops : Array Oper} {T : List TE} {e0 E : Env} {h0 hf : Hp} {d0 df : List AD} {base : Bs Λ} {n : Nat} {ρ0 : Rho} {w0 : World} (F : Fix Λ P rec ops T e0 h0 d0 E hf df)
  {A B : List TE} {D : Nat → Bool} {ρ : Rho} {w : World} {t : Array Value} {ds : List Deferred} {e1 : Env} {h1 : Hp} {d1 : List AD} {W1 : List Watch}

theorem St.memB (s : St P rec ops T e0 h0 E hf df base n ρ0 w0 A B D ρ w t ds e1 h1 d1 W1) {τ : TE} (h : τ ∈ B) : τ ∈ T := by rw [s.split]; exact List.mem_append.2 (.inr h)
theorem St.memA (s : St P rec ops T e0 h0 E hf df base n ρ0 w0 A B D ρ w t ds e1 h1 d1 W1) {τ : TE} (h : τ ∈ A) : τ ∈ T := by rw [s.split]; exact List.mem_append.2 (.inl h)

include F

theorem St.apart (s : St P rec ops T e0 h0 E hf df base n ρ0 w0 A B D ρ w t ds e1 h1 d1 W1) {τ σ : TE} (hτ : τ ∈ A) (hσ : σ ∈ B) : σ.p.i ≠ τ.p.i := by
  obtain ⟨l1, l2, rfl⟩ := List.append_of_mem hτ
  exact (F.once (A := l1) (τ := τ) (B := l2 ++ B) (by rw [s.split]; simp)).2 σ (by simp [hσ])

/-- An operation that leaves the blocks as they are. -/
theorem St.quiet (s : St P rec ops T e0 h0 E hf df base n ρ0 w0 A B D ρ w t ds e1 h1 d1 W1) {τ : TE} (hτ : τ ∈ T) (hD : D τ.p.i = false) (hdir : ∀ j, Dir τ.p.o j → D j = true)
    (hwhere : τ ∈ A ∨ τ.p.c = 0 ∨ (τ.p.c = 3 ∧ τ.want = false)) (hdst : dstOk n τ.p.o.dst = true) {ρ' : Rho} {w' : World} {V : Value} {ds' : List Deferred} (hv : VR ρ' τ.v V) (hr : Rel ρ' base h1 w') (hs : Step ρ h1 w ρ' h1 w') (hd : DefR ρ' d1 ds') :
    St P rec ops T e0 h0 E hf df base n ρ0 w0 A B (ins D τ.p.i) ρ' w' (putT t τ.p.o.dst V) ds' e1 h1 d1 W1 := by
  have hpend : ∀ σ ∈ B, PendT (ins D τ.p.i) σ → PendT D σ := by
    intro σ hσ ⟨h1, h2, h3⟩
    rw [ins_iff] at h1
    rcases h1 with h1 | h1
    · exact ⟨h1, h2, h3⟩
    · exfalso
      rcases hwhere with h | h | ⟨h, h'⟩
      · exact s.apart F h hσ h1
      · have := F.uniq hτ (s.memB hσ) h1; subst this; omega
      · have := F.uniq hτ (s.memB hσ) h1; subst this; rw [h'] at h2; cases h2
  have hkeep : ∀ σ ∈ B, ρ' (σ.h.next + 1) = ρ (σ.h.next + 1) := fun σ hσ => hs.keep _ (.inr (by have := ((s.run.le F.le).2 σ hσ).1; omega))
  exact {
    split := s.split
    run := s.run
    closed := F.closed_ins s.closed hτ hdir
    preD := fun σ hσ hc => ins_iff.2 (.inl (s.preD σ hσ hc))
    sufD := fun σ hσ h => by
      rw [ins_iff] at h
      rcases h with h | h
      · exact s.sufD σ hσ h
      · rcases hwhere with q | q | ⟨q, _⟩
        · exact absurd h (s.apart F q hσ)
        · have := F.uniq hτ (s.memB hσ) h; subst this; exact .inl q
        · have := F.uniq hτ (s.memB hσ) h; subst this; exact .inr q
    rel := hr
    dfs := hd
    size := by rw [putT_size]; exact s.size
    env := s.env.put F hs.sub hτ hv (by rw [s.size]; exact hdst)
    todo := fun σ hσ h hw hc => s.todo σ hσ (ins_not.1 h).1 hw hc
    pend := fun σ hσ h hh => by
      obtain ⟨o, l, q1, q2, q3⟩ := s.pend σ hσ (hpend σ hσ h) hh
      exact ⟨o, l, q1, q2.step hs, q3⟩
    pdis := fun σ hσ τ' hτ' h h' hh hh' hn l l' hl hl' => by
      rw [hkeep σ hσ] at hl
      rw [hkeep τ' hτ'] at hl'
      exact s.pdis σ hσ τ' hτ' (hpend σ hσ h) (hpend τ' hτ' h') hh hh' hn l l' hl hl'
    fresh := fun i hi hi' h => by
      rw [hs.keep i (.inr hi)]
      exact s.fresh i hi hi' fun σ hσ ⟨q1, q2, q3⟩ => h σ hσ ⟨ins_iff.2 (.inl q1), q2, q3⟩
    base0 := s.base0
    stp := s.stp.more hs (s.run.le F.le).1 s.base0 }

/-- A block is made ahead of its turn. -/
theorem St.early (s : St P rec ops T e0 h0 E hf df base n ρ0 w0 A B D ρ w t ds e1 h1 d1 W1) {τ : TE} (hτ : τ ∈ B) (hD : D τ.p.i = false) (hdir : ∀ j, Dir τ.p.o j → D j = true)
    (h3 : τ.p.c = 3) (hw : τ.want = true) (hdst : dstOk n τ.p.o.dst = true) {o : AO} (ho : τ.h2 = τ.h.bump.new o) (hro : rw o = true) {ρ' : Rho} {w' : World} {V : Value} {ds' : List Deferred} (hv : VR ρ' τ.v V) {l : Loc} (hl : ρ' (τ.h.next + 1) = some l)
    (hr : Rel ρ' base ((h1.upto (τ.h.next + 1)).new o) w') (hs : Step ρ (h1.upto (τ.h.next + 1)) w ρ' ((h1.upto (τ.h.next + 1)).new o) w') (hd : DefR ρ' d1 ds') :
    St P rec ops T e0 h0 E hf df base n ρ0 w0 A B (ins D τ.p.i) ρ' w' (putT t τ.p.o.dst V) ds' e1 h1 d1 W1 := by
  have hτT := s.memB hτ
  have hn := ((s.run.le F.le).2 τ hτ).1
  have hn2 : τ.h.next + 2 ≤ hf.next := by
    have := ((s.run.le F.le).2 τ hτ).2
    rw [ho] at this
    exact this
  have hget : ∀ b x, h1.get b = some x → ((h1.upto (τ.h.next + 1)).new o).get b = some x := fun b x g => by
    rw [Hp.get_new_ne]
    · exact g
    · have := s.rel.dom b x g; show b ≠ τ.h.next + 1; omega
  have hpend : ∀ σ ∈ B, PendT (ins D τ.p.i) σ → PendT D σ ∨ σ = τ := by
    intro σ hσ ⟨h1, h2, h3⟩
    rw [ins_iff] at h1
    rcases h1 with h1 | h1
    · exact .inl ⟨h1, h2, h3⟩
    · exact .inr (F.uniq hτT (s.memB hσ) h1)
  have hnD : ∀ σ, PendT D σ → σ ≠ τ := fun σ h q => by subst q; have := h.1; rw [hD] at this; cases this
  have hfar : ∀ σ ∈ B, PendT D σ → σ.h.next + 2 ≤ τ.h.next ∨ τ.h.next + 2 ≤ σ.h.next := by
    intro σ hσ h
    obtain ⟨o', _, q, _⟩ := (F.ok (s.memB hσ)).res3 h.2.1 (F.mem (s.memB hσ)).2.2 h.2.2
    rcases s.run.two F.le hτ hσ (hnD σ h) with z | z
    · rw [ho] at z; exact .inr z
    · rw [q] at z; exact .inl z
  have hold : Here (τ.h.next + 1) → Pd ρ' base h1 w' (τ.h.next + 1) o l ∧ Old ρ0 h0 w0 l := by
    intro hh
    have hg : ((h1.upto (τ.h.next + 1)).new o).get (τ.h.next + 1) = some o := hh _ _
    refine ⟨⟨hl, hro, hr.obj _ _ _ hg hl, hr.low _ _ _ hg hro hl, hr.lt _ _ hl, fun b x k g rx e hk => ?_⟩, s.stp.old (hs.img _ _ _ hg hro hl)⟩
    have := hr.inj b (τ.h.next + 1) x o k l (hget b x g) hg rx hro e hl hk
    have := s.rel.dom b x g
    omega
  have hstep : ∀ {i o' l'}, Pd ρ base h1 w i o' l' → Pd ρ' base h1 w' i o' l' := fun p => ((Pd.upto.2 p).step hs).less hget
  have hsepτ : ∀ σ ∈ B, PendT D σ → Here (σ.h.next + 1) → Here (τ.h.next + 1) → ∀ l', ρ' (σ.h.next + 1) = some l' → l'.b ≠ l.b := by
    intro σ hσ h hh hhτ l' hl'
    obtain ⟨o', l'', q1, q2, q3⟩ := s.pend σ hσ h hh
    have e : ρ' (σ.h.next + 1) = some l'' := hs.sub _ _ q2.at_
    rw [hl'] at e; injection e with e; subst e
    have hg : ((h1.upto (τ.h.next + 1)).new o).get (τ.h.next + 1) = some o := hhτ _ _
    rcases hs.img _ _ _ hg hro hl with z | ⟨b₀, o₀, l₀, g₀, r₀, e₀, z⟩
    · have := q2.lt; omega
    · rw [← z]; exact (q2.sep b₀ o₀ l₀ g₀ r₀ e₀).symm
  exact {
    split := s.split
    run := s.run
    closed := F.closed_ins s.closed hτT hdir
    preD := fun σ hσ hc => ins_iff.2 (.inl (s.preD σ hσ hc))
    sufD := fun σ hσ h => by
      rw [ins_iff] at h
      rcases h with h | h
      · exact s.sufD σ hσ h
      · have := F.uniq hτT (s.memB hσ) h; subst this; exact .inr h3
    rel := hr.less hget s.rel.dom rfl
    dfs := hd
    size := by rw [putT_size]; exact s.size
    env := s.env.put F hs.sub hτT hv (by rw [s.size]; exact hdst)
    todo := fun σ hσ h hw hc => s.todo σ hσ (ins_not.1 h).1 hw hc
    pend := fun σ hσ h hh => by
      rcases hpend σ hσ h with h | rfl
      · obtain ⟨o', l', q1, q2, q3⟩ := s.pend σ hσ h hh
        exact ⟨o', l', q1, hstep q2, q3⟩
      · exact ⟨o, l, ho, hold hh⟩
    pdis := fun σ hσ τ' hτ' h h' hh hh' hne k k' hk hk' => by
      rcases hpend σ hσ h with g1 | rfl <;> rcases hpend τ' hτ' h' with g2 | rfl
      · obtain ⟨_, l1, _, q1, _⟩ := s.pend σ hσ g1 hh
        obtain ⟨_, l2, _, q2, _⟩ := s.pend τ' hτ' g2 hh'
        have e1 := hs.sub _ _ q1.at_
        have e2 := hs.sub _ _ q2.at_
        rw [hk] at e1; injection e1 with e1; subst e1
        rw [hk'] at e2; injection e2 with e2; subst e2
        exact s.pdis σ hσ τ' hτ' g1 g2 hh hh' hne _ _ q1.at_ q2.at_
      · rw [hl] at hk'; injection hk' with hk'; subst hk'
        exact hsepτ σ hσ g1 hh hh' k hk
      · rw [hl] at hk; injection hk with hk; subst hk
        exact (hsepτ τ' hτ' g2 hh' hh k' hk').symm
      · exact absurd rfl hne
    fresh := fun i hi hi' h => by
      have hne : i ≠ τ.h.next + 1 := h τ hτ ⟨ins_iff.2 (.inr rfl), hw, h3⟩
      rw [hs.keep i (by show i < τ.h.next + 1 ∨ τ.h.next + 1 + 1 ≤ i; omega)]
      exact s.fresh i hi hi' fun σ hσ ⟨q1, q2, q3⟩ => h σ hσ ⟨ins_iff.2 (.inl q1), q2, q3⟩
    base0 := s.base0
    stp := s.stp.early hs s.rel.dom (by omega) (by omega) s.base0 }

/-- The one whose turn it is. -/
theorem St.head {τ : TE} (s : St P rec ops T e0 h0 E hf df base n ρ0 w0 A (τ :: B) D ρ w t ds e1 h1 d1 W1) (hD : D τ.p.i = false) (hdir : ∀ j, Dir τ.p.o j → D j = true) (hc : 1 < τ.p.c)
    (hdst : dstOk n τ.p.o.dst = true) {ρ' : Rho} {w' : World} {V : Value} {ds' : List Deferred} (hv : VR ρ' τ.v V) (hr : Rel ρ' base τ.h2 w') (hs : Step ρ h1 w ρ' τ.h2 w') (hd : DefR ρ' τ.d2 ds') :
    St P rec ops T e0 h0 E hf df base n ρ0 w0 (A ++ [τ]) B (ins D τ.p.i) ρ' w' (putT t τ.p.o.dst V) ds' τ.e2 τ.h2 τ.d2 τ.W2 := by
  have hτT : τ ∈ T := s.memB (.head _)
  have hT : T = A ++ τ :: B := s.split
  obtain ⟨c1, c2, c3, c4, ok, c5⟩ := s.run
  have hpend : ∀ σ ∈ B, PendT (ins D τ.p.i) σ → PendT D σ := by
    intro σ hσ ⟨h1, h2, h3⟩
    rw [ins_iff] at h1
    exact ⟨h1.resolve_right fun q => (F.once hT).2 σ hσ q, h2, h3⟩
  have hnx : ∀ σ ∈ B, τ.h2.next ≤ σ.h.next := fun σ hσ => ((c5.le F.le).2 σ hσ).1
  have hkeep : ∀ σ ∈ B, ρ' (σ.h.next + 1) = ρ (σ.h.next + 1) := fun σ hσ => hs.keep _ (.inr (by have := hnx σ hσ; omega))
  exact {
    split := by simp [hT]
    run := c5
    closed := F.closed_ins s.closed hτT hdir
    preD := fun σ hσ hc => by
      rw [ins_iff]
      rcases List.mem_append.1 hσ with h | h
      · exact .inl (s.preD σ h hc)
      · rw [List.mem_singleton] at h; subst h; exact .inr rfl
    sufD := fun σ hσ h => by
      rw [ins_iff] at h
      exact s.sufD σ (.tail _ hσ) (h.resolve_right fun q => (F.once hT).2 σ hσ q)
    rel := hr
    dfs := hd
    size := by rw [putT_size]; exact s.size
    env := s.env.put F hs.sub hτT hv (by rw [s.size]; exact hdst)
    todo := fun σ hσ h hw hc1 => by
      rw [ins_not] at h
      rcases List.mem_append.1 hσ with hσA | q
      · obtain ⟨m, v⟩ := s.todo σ hσA h.1 hw hc1
        cases hwτ : τ.want with
        | false =>
          obtain ⟨_, o1, _, o2⟩ := ok.off hwτ
          rw [o1, o2, c2, c4]
          exact ⟨m, v⟩
        | true =>
          have hwk := ok.w2 hwτ hc
          have hb : bit τ.p.b σ.p.i = false := by
            cases hb : bit τ.p.b σ.p.i with
            | false => rfl
            | true => have := F.ancD s.closed hτT hdir hb; rw [h.1] at this; cases this
          rw [c4] at hwk
          obtain ⟨m2, v2⟩ := watch_keep hwk _ _ _ _ m hb
          exact ⟨m2, sameOR_val (by rw [← (F.mem (s.memA hσA)).2.2]; omega) v2⟩
      · rw [List.mem_singleton] at q; subst q; exact absurd rfl h.2
    pend := fun σ hσ h hh => by
      obtain ⟨o, l, q1, q2, q3⟩ := s.pend σ (.tail _ hσ) (hpend σ hσ h) hh
      exact ⟨o, l, q1, q2.step hs, q3⟩
    pdis := fun σ hσ τ' hτ' h h' hh hh' hn l l' hl hl' => by
      rw [hkeep σ hσ] at hl
      rw [hkeep τ' hτ'] at hl'
      exact s.pdis σ (.tail _ hσ) τ' (.tail _ hτ') (hpend σ hσ h) (hpend τ' hτ' h') hh hh' hn l l' hl hl'
    fresh := fun i hi hi' h => by
      rw [hs.keep i (.inr hi)]
      refine s.fresh i (Nat.le_trans hs.next hi) hi' fun σ hσ hp => ?_
      cases hσ with
      | head => exact absurd hp.1 (by rw [hD]; exact Bool.false_ne_true)
      | tail _ hσ => exact h σ hσ ⟨ins_iff.2 (.inl hp.1), hp.2.1, hp.2.2⟩
    base0 := Nat.le_trans s.base0 hs.next
    stp := s.stp.more hs (c5.le F.le).1 s.base0 }

/-- Nothing is to be done for the next one. -/
theorem St.skip {τ : TE} (s : St P rec ops T e0 h0 E hf df base n ρ0 w0 A (τ :: B) D ρ w t ds e1 h1 d1 W1) (hgo : τ.p.c ≤ 1 ∨ D τ.p.i = true) :
    ∃ e2 h2 d2 W2, St P rec ops T e0 h0 E hf df base n ρ0 w0 (A ++ [τ]) B D ρ w t ds e2 h2 d2 W2 := by
  have hτT : τ ∈ T := s.memB (.head _)
  have hT : T = A ++ τ :: B := s.split
  obtain ⟨c1, c2, c3, c4, ok, c5⟩ := s.run
  have hcl := (F.mem hτT).2.2
  have hpre : ∀ σ ∈ A ++ [τ], 1 < σ.p.c → D σ.p.i = true := by
    intro σ hσ hc
    rcases List.mem_append.1 hσ with h | h
    · exact s.preD σ h hc
    · rw [List.mem_singleton] at h; subst h; exact hgo.resolve_left (by omega)
  have hsuf : ∀ σ ∈ B, D σ.p.i = true → σ.p.c = 0 ∨ σ.p.c = 3 := fun σ hσ h => s.sufD σ (.tail _ hσ) h
  by_cases hq : τ.want = true ∧ τ.p.c = 3
  · obtain ⟨hw, h3⟩ := hq
    have hD : D τ.p.i = true := hgo.resolve_left (by omega)
    obtain ⟨o, hro, ho, hd2, _, _⟩ := ok.res3 hw hcl h3
    have hh2 : τ.h2 = h1.bump.new o := by rw [ho, c2]
    have hid : τ.h.next + 1 = h1.next + 1 := by rw [c2]
    have hnx : ∀ σ ∈ B, h1.next + 2 ≤ σ.h.next := fun σ hσ => by
      have := ((c5.le F.le).2 σ hσ).1
      rw [hh2] at this
      exact this
    have todo2 : ∀ σ ∈ A ++ [τ], D σ.p.i = false → σ.want = true → σ.p.c = 1 → (σ.p.i, σ.e, σ.p.o, σ.v) ∈ τ.W2 ∧ aop P σ.e (h1.bump.new o) σ.p.o = .val σ.v (h1.bump.new o) := by
      intro σ hσ h hwσ hc1
      rcases List.mem_append.1 hσ with hσA | q
      · obtain ⟨m, v⟩ := s.todo σ hσA h hwσ hc1
        have hwk := ok.w2 hw (by omega)
        have hb : bit τ.p.b σ.p.i = false := by
          cases hb : bit τ.p.b σ.p.i with
          | false => rfl
          | true => have := F.ancD s.closed hτT (F.dirOf s.closed hτT hD) hb; rw [h] at this; cases this
        rw [c4] at hwk
        obtain ⟨m2, v2⟩ := watch_keep hwk _ _ _ _ m hb
        rw [hh2] at v2
        exact ⟨m2, sameOR_val (by rw [← (F.mem (s.memA hσA)).2.2]; omega) v2⟩
      · rw [List.mem_singleton] at q; subst q; rw [hD] at h; cases h
    have fresh2 : ∀ i, (h1.bump.new o).next ≤ i → i ≤ hf.next → (∀ σ ∈ B, PendT D σ → i ≠ σ.h.next + 1) → ρ i = none := fun i hi hi' h => by
      have hi : h1.next + 2 ≤ i := hi
      refine s.fresh i (by omega) hi' fun σ hσ hp => ?_
      cases hσ with
      | head => omega
      | tail _ hσ => exact h σ hσ hp
    have run2 : Chain P rec ops.toList B τ.e2 (h1.bump.new o) d1 τ.W2 E hf df := by rw [← hh2, ← c3, ← hd2]; exact c5
    rcases getF_setF_dich (α := AO) 22 (h1.next + 1) with hh | hh
    · obtain ⟨o', l, q1, q2, q3⟩ := s.pend τ (.head _) ⟨hD, hw, h3⟩ (by rw [hid]; exact hh)
      have hoo : o' = o := by
        have e1 : τ.h.bump.new o = τ.h.bump.new o' := ho.symm.trans q1
        have g1 : (τ.h.bump.new o).get τ.h.bump.next = some o := by show getF 22 (setF 22 τ.h.t (τ.h.next + 1) o) (τ.h.next + 1) = some o; rw [hid]; exact hh _ _
        rw [e1] at g1
        exact (Hp.get_new_eq g1).symm
      subst hoo
      rw [hid] at q2
      refine ⟨τ.e2, h1.bump.new o', d1, τ.W2, ?_⟩
      exact {
        split := by simp [hT]
        run := run2
        closed := s.closed
        preD := hpre
        sufD := hsuf
        rel := s.rel.absorb q2
        dfs := s.dfs
        size := s.size
        env := s.env
        todo := todo2
        pend := fun σ hσ h hhσ => by
          obtain ⟨o2, l2, z1, z2, z3⟩ := s.pend σ (.tail _ hσ) h hhσ
          refine ⟨o2, l2, z1, z2.absorb q2 ?_, z3⟩
          have := hnx σ hσ
          exact s.pdis τ (.head _) σ (.tail _ hσ) ⟨hD, hw, h3⟩ h (by rw [hid]; exact hh) hhσ (by omega) l l2 (by rw [hid]; exact q2.at_) z2.at_
        pdis := fun σ hσ τ' hτ' => s.pdis σ (.tail _ hσ) τ' (.tail _ hτ')
        fresh := fresh2
        base0 := Nat.le_trans s.base0 (by show h1.next ≤ h1.next + 1 + 1; omega)
        stp := s.stp.absorb fun x k _ hk => by rw [q2.at_] at hk; injection hk with hk; subst hk; exact q3 }
    · refine ⟨τ.e2, h1.bump.new o, d1, τ.W2, ?_⟩
      exact {
        split := by simp [hT]
        run := run2
        closed := s.closed
        preD := hpre
        sufD := hsuf
        rel := s.rel.absorb0 hh
        dfs := s.dfs
        size := s.size
        env := s.env
        todo := todo2
        pend := fun σ hσ h hhσ => by
          obtain ⟨o2, l2, z1, z2, z3⟩ := s.pend σ (.tail _ hσ) h hhσ
          exact ⟨o2, l2, z1, z2.absorb0 hh, z3⟩
        pdis := fun σ hσ τ' hτ' => s.pdis σ (.tail _ hσ) τ' (.tail _ hτ')
        fresh := fresh2
        base0 := Nat.le_trans s.base0 (by show h1.next ≤ h1.next + 1 + 1; omega)
        stp := s.stp.absorb fun x k g _ => by
          have : (h1.bump.new o).get (h1.next + 1) = none := hh _ _
          rw [this] at g; cases g }
  · have hcW : (τ.want = false ∨ τ.p.c = 0 ∨ τ.p.c = 1) := by
      cases hw : τ.want with
      | false => exact .inl rfl
      | true =>
        have h3 : τ.p.c ≠ 3 := fun h => hq ⟨hw, h⟩
        rcases hgo with h | h
        · exact .inr (by omega)
        · rcases s.sufD τ (.head _) h with h | h
          · exact .inr (.inl h)
          · exact absurd h h3
    have hsame : τ.h2 = h1 ∧ τ.d2 = d1 ∧ (τ.W2 = W1 ∨ (τ.want = true ∧ τ.p.c = 1 ∧ τ.W2 = (τ.p.i, τ.e, τ.p.o, τ.v) :: W1)) := by
      cases hw : τ.want with
      | false =>
        obtain ⟨_, o1, o2, o3⟩ := ok.off hw
        exact ⟨o1.trans c2, o2.trans c3, .inl (o3.trans c4)⟩
      | true =>
        rw [hw] at hcW
        have h1 : τ.p.c ≤ 1 := by rcases hcW with h | h | h <;> first | (cases h; done) | omega
        obtain ⟨_, o1, o2⟩ := ok.res hw hcl h1
        refine ⟨o1.trans c2, o2.trans c3, ?_⟩
        by_cases h0 : τ.p.c = 0
        · exact .inl ((ok.w0 hw h0).trans c4)
        · have hc1 : τ.p.c = 1 := by omega
          exact .inr ⟨rfl, hc1, by rw [ok.w1 hw hc1, c4]⟩
    obtain ⟨z1, z2, z3⟩ := hsame
    have hnp : ¬ PendT D τ := fun h => hq ⟨h.2.1, h.2.2⟩
    refine ⟨τ.e2, h1, d1, τ.W2, ?_⟩
    exact {
      split := by simp [hT]
      run := by rw [z1, z2] at c5; exact c5
      closed := s.closed
      preD := hpre
      sufD := hsuf
      rel := s.rel
      dfs := s.dfs
      size := s.size
      env := s.env
      todo := fun σ hσ h hwσ hc1 => by
        rcases List.mem_append.1 hσ with hσA | q
        · obtain ⟨m, v⟩ := s.todo σ hσA h hwσ hc1
          refine ⟨?_, v⟩
          rcases z3 with z3 | ⟨_, _, z3⟩
          · rw [z3]; exact m
          · rw [z3]; exact .tail _ m
        · rw [List.mem_singleton] at q
          subst q
          obtain ⟨v, _, _⟩ := ok.res hwσ hcl (by omega)
          rw [c2] at v
          refine ⟨?_, v⟩
          rcases z3 with z3 | ⟨_, _, z3⟩
          · have := ok.w1 hwσ hc1; rw [this]; exact .head _
          · rw [z3]; exact .head _
      pend := fun σ hσ => s.pend σ (.tail _ hσ)
      pdis := fun σ hσ τ' hτ' => s.pdis σ (.tail _ hσ) τ' (.tail _ hτ')
      fresh := fun i hi hi' h => s.fresh i hi hi' fun σ hσ hp => by
        cases hσ with
        | head => exact absurd hp hnp
        | tail _ hσ => exact h σ hσ hp
      base0 := s.base0
      stp := s.stp }

def AtHead (B : List TE) (D : Nat → Bool) : Prop := ∀ τ B', B = τ :: B' → 1 < τ.p.c ∧ D τ.p.i = false

theorem St.advance : ∀ {B A : List TE} {e1 : Env} {h1 : Hp} {d1 : List AD} {W1 : List Watch}, St P rec ops T e0 h0 E hf df base n ρ0 w0 A B D ρ w t ds e1 h1 d1 W1 →
    ∃ A' B' e2 h2 d2 W2, St P rec ops T e0 h0 E hf df base n ρ0 w0 A' B' D ρ w t ds e2 h2 d2 W2 ∧ AtHead B' D
  | [], A, e1, h1, d1, W1, s => ⟨A, [], e1, h1, d1, W1, s, fun τ B' h => by cases h⟩
  | τ :: B, A, e1, h1, d1, W1, s => by
    by_cases hgo : τ.p.c ≤ 1 ∨ D τ.p.i = true
    · obtain ⟨e2, h2, d2, W2, s2⟩ := s.skip F hgo
      exact St.advance s2
    · refine ⟨A, τ :: B, e1, h1, d1, W1, s, fun σ B' h => ?_⟩
      injection h with h1 h2
      subst h1
      refine ⟨by omega, ?_⟩
      cases hD : D τ.p.i with
      | false => rfl
      | true => exact absurd (.inr hD) hgo

end
end Go.Ev
