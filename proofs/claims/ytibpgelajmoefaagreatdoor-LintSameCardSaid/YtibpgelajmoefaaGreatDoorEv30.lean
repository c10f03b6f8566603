/- Drawn regions: the plan's run, one record an operation. -/
import Derived.Test.YtibpgelajmoefaaGreatDoorEv28
namespace Go.Ev
variable {Λ : Laid}

/-- One operation of the plan's run: what stood ahead of it, and behind it. -/
structure TE where
  p : PE
  e : Env
  h : Hp
  d : List AD
  W : List Watch
  want : Bool
  v : AV
  h2 : Hp
  d2 : List AD
  W2 : List Watch

noncomputable def TE.e2 (τ : TE) : Env := Env.put τ.e τ.p.o.dst τ.v

structure TOk (P : Program) (rec : Req → Out) (L : List Oper) (τ : TE) : Prop where
  want : wantA L τ.e τ.p.o = some τ.want
  off : τ.want = false → τ.v = .tup [] ∧ τ.h2 = τ.h ∧ τ.d2 = τ.d ∧ τ.W2 = τ.W
  on : τ.want = true → (if τ.p.c = 3 then o3 rec τ.h.bump τ.d (aop P τ.e τ.h.bump τ.p.o) else o3 rec τ.h τ.d (aop P τ.e τ.h τ.p.o)) = .is τ.v τ.h2 τ.d2
  w0 : τ.want = true → τ.p.c = 0 → τ.W2 = τ.W
  w1 : τ.want = true → τ.p.c = 1 → τ.W2 = (τ.p.i, τ.e, τ.p.o, τ.v) :: τ.W
  w2 : τ.want = true → 1 < τ.p.c → watchOk P τ.h2 τ.p.b τ.W = some τ.W2

def Chain (P : Program) (rec : Req → Out) (L : List Oper) : List TE → Env → Hp → List AD → List Watch → Env → Hp → List AD → Prop
  | [], e, h, d, _, e', h', d' => e' = e ∧ h' = h ∧ d' = d
  | τ :: T, e, h, d, W, e', h', d' => τ.e = e ∧ τ.h = h ∧ τ.d = d ∧ τ.W = W ∧ TOk P rec L τ ∧ Chain P rec L T τ.e2 τ.h2 τ.d2 τ.W2 e' h' d'

section
variable {P : Program} {rec : Req → Out} {L : List Oper}

theorem evD_trace : ∀ {l : List PE} {e : Env} {h : Hp} {d : List AD} {W : List Watch} {x : Ex} {e' : Env} {h' : Hp} {d' : List AD}, evD P rec L l e h d W = .done x e' h' d' →
    x = .normal ∧ ∃ T : List TE, T.map TE.p = l ∧ Chain P rec L T e h d W e' h' d'
  | [], e, h, d, W, x, e', h', d', he => by
    change Out.done .normal e h d = _ at he
    injection he with h1 h2 h3 h4
    exact ⟨h1.symm, [], rfl, h2.symm, h3.symm, h4.symm⟩
  | p :: l, e, h, d, W, x, e', h', d', he => by
    rcases evD_cons he with ⟨hw, h2⟩ | ⟨hw, v, h1, d1, h3, h4⟩
    · obtain ⟨q, T, hT, hc⟩ := evD_trace h2
      exact ⟨q, ⟨p, e, h, d, W, false, .tup [], h, d, W⟩ :: T, by simp [hT], rfl, rfl, rfl, rfl, ⟨hw, fun _ => ⟨rfl, rfl, rfl, rfl⟩, (by intro q; cases q), (by intro q; cases q), (by intro q; cases q), (by intro q; cases q)⟩, hc⟩
    · rcases h4 with ⟨hc0, h4⟩ | ⟨hc1, h4⟩ | ⟨hc2, W', hw', h4⟩
      · obtain ⟨q, T, hT, hc⟩ := evD_trace h4
        refine ⟨q, ⟨p, e, h, d, W, true, v, h1, d1, W⟩ :: T, by simp [hT], rfl, rfl, rfl, rfl, ⟨hw, (by intro q; cases q), fun _ => h3, fun _ _ => rfl, fun _ (q : p.c = 1) => by omega, fun _ (q : 1 < p.c) => by omega⟩, hc⟩
      · obtain ⟨q, T, hT, hc⟩ := evD_trace h4
        refine ⟨q, ⟨p, e, h, d, W, true, v, h1, d1, (p.i, e, p.o, v) :: W⟩ :: T, by simp [hT], rfl, rfl, rfl, rfl, ⟨hw, (by intro q; cases q), fun _ => h3, fun _ (q : p.c = 0) => by omega, fun _ _ => rfl, fun _ (q : 1 < p.c) => by omega⟩, hc⟩
      · obtain ⟨q, T, hT, hc⟩ := evD_trace h4
        refine ⟨q, ⟨p, e, h, d, W, true, v, h1, d1, W'⟩ :: T, by simp [hT], rfl, rfl, rfl, rfl, ⟨hw, (by intro q; cases q), fun _ => h3, fun _ (q : p.c = 0) => by omega, fun _ (q : p.c = 1) => by omega, fun _ _ => hw'⟩, hc⟩

theorem Chain.app : ∀ {A B : List TE} {e : Env} {h : Hp} {d : List AD} {W : List Watch} {e' : Env} {h' : Hp} {d' : List AD}, Chain P rec L (A ++ B) e h d W e' h' d' → ∃ e1 h1 d1 W1, Chain P rec L B e1 h1 d1 W1 e' h' d'
  | [], B, e, h, d, W, e', h', d', c => ⟨e, h, d, W, c⟩
  | τ :: A, B, e, h, d, W, e', h', d', c => Chain.app (A := A) c.2.2.2.2.2

theorem Chain.ok : ∀ {T : List TE} {e : Env} {h : Hp} {d : List AD} {W : List Watch} {e' : Env} {h' : Hp} {d' : List AD}, Chain P rec L T e h d W e' h' d' → ∀ τ ∈ T, TOk P rec L τ
  | [], _, _, _, _, _, _, _, _, τ, h => by cases h
  | σ :: T, _, _, _, _, _, _, _, c, τ, h => by
    cases h with
    | head => exact c.2.2.2.2.1
    | tail _ h => exact Chain.ok c.2.2.2.2.2 τ h

theorem put_get_ne {e : Env} {d : Option Tmp} {v : AV} {s : Tmp} (h : d ≠ some s) : Env.get (Env.put e d v) s = Env.get e s := by
  cases d with
  | none => rfl
  | some d => exact getF_setF_ne 11 e s d v (fun q => h (by rw [q]))

/-- Slots that are not written stay. -/
theorem Chain.env : ∀ {T : List TE} {e : Env} {h : Hp} {d : List AD} {W : List Watch} {e' : Env} {h' : Hp} {d' : List AD}, Chain P rec L T e h d W e' h' d' → ∀ s, (∀ τ ∈ T, τ.p.o.dst ≠ some s) → Env.get e' s = Env.get e s
  | [], _, _, _, _, _, _, _, c, s, _ => by rw [c.1]
  | σ :: T, e, _, _, _, _, _, _, c, s, h => by
    rw [Chain.env c.2.2.2.2.2 s fun τ hτ => h τ (.tail _ hτ)]
    unfold TE.e2
    rw [put_get_ne (h σ (.head _)), c.1]

theorem Chain.envAt : ∀ {A B : List TE} {τ : TE} {e : Env} {h : Hp} {d : List AD} {W : List Watch} {e' : Env} {h' : Hp} {d' : List AD}, Chain P rec L (A ++ τ :: B) e h d W e' h' d' → ∀ s, (∀ σ ∈ A, σ.p.o.dst ≠ some s) → Env.get τ.e s = Env.get e s
  | [], B, τ, e, _, _, _, _, _, _, c, s, _ => by rw [c.1]
  | σ :: A, B, τ, e, _, _, _, _, _, _, c, s, h => by
    rw [Chain.envAt (A := A) c.2.2.2.2.2 s fun τ hτ => h τ (.tail _ hτ)]
    unfold TE.e2
    rw [put_get_ne (h σ (.head _)), c.1]

theorem Chain.envEnd {A B : List TE} {τ : TE} {e : Env} {h : Hp} {d : List AD} {W : List Watch} {e' : Env} {h' : Hp} {d' : List AD} (c : Chain P rec L (A ++ τ :: B) e h d W e' h' d') (s : Tmp) (hn : ∀ σ ∈ τ :: B, σ.p.o.dst ≠ some s) :
    Env.get e' s = Env.get τ.e s := by
  obtain ⟨e1, h1, d1, W1, c1⟩ := c.app
  rw [c1.env s hn, c1.1]

theorem Chain.envPut {A B : List TE} {τ : TE} {e : Env} {h : Hp} {d : List AD} {W : List Watch} {e' : Env} {h' : Hp} {d' : List AD} (c : Chain P rec L (A ++ τ :: B) e h d W e' h' d') (s : Tmp) (hd : τ.p.o.dst = some s) (hn : ∀ σ ∈ B, σ.p.o.dst ≠ some s)
    {v : AV} (hv : Env.get e' s = some v) : v = τ.v := by
  obtain ⟨e1, h1, d1, W1, c1⟩ := c.app
  rw [c1.2.2.2.2.2.env s hn] at hv
  unfold TE.e2 at hv
  rw [hd] at hv
  exact getF_setF_eq 11 _ _ _ _ hv

theorem TOk.res {τ : TE} (ok : TOk P rec L τ) (hw : τ.want = true) (hc : τ.p.c = clsOf τ.p.o.op) (h1 : τ.p.c ≤ 1) : aop P τ.e τ.h τ.p.o = .val τ.v τ.h ∧ τ.h2 = τ.h ∧ τ.d2 = τ.d := by
  have := ok.on hw
  rw [if_neg (by omega)] at this
  rcases cls01 (P := P) (e := τ.e) (h := τ.h) (o := τ.p.o) (by omega) with h | ⟨v, h⟩
  · rw [h] at this; cases this
  · rw [h] at this
    simp only [o3, O3.is.injEq] at this
    obtain ⟨e1, e2, e3⟩ := this
    exact ⟨by rw [h, e1], e2.symm, e3.symm⟩

theorem TOk.res0 {τ : TE} (ok : TOk P rec L τ) (hw : τ.want = true) (hc : τ.p.c = clsOf τ.p.o.op) (h0 : τ.p.c = 0) {h : Hp} (hg : h.g = τ.h.g) : aop P τ.e h τ.p.o = .val τ.v h := by
  obtain ⟨h1, _, _⟩ := ok.res hw hc (by omega)
  obtain ⟨x, hx⟩ := cls0 (P := P) (e := τ.e) (o := τ.p.o) (g := τ.h.g) (by omega)
  have a : aop P τ.e τ.h τ.p.o = OR.ofV τ.h x := hx τ.h rfl
  have b : aop P τ.e h τ.p.o = OR.ofV h x := hx h hg
  rw [h1] at a
  cases x with
  | none => cases a
  | some v => simp only [OR.ofV, OR.val.injEq] at a; rw [b, a.1]; rfl

theorem TOk.res3 {τ : TE} (ok : TOk P rec L τ) (hw : τ.want = true) (hc : τ.p.c = clsOf τ.p.o.op) (h3 : τ.p.c = 3) :
    ∃ o, rw o = true ∧ τ.h2 = τ.h.bump.new o ∧ τ.d2 = τ.d ∧ (∀ ρ V, VR ρ τ.v V → ∃ l, ρ (τ.h.next + 1) = some l) ∧ ∀ h : Hp, h.g = τ.h.g → h.next = τ.h.next + 1 → aop P τ.e h τ.p.o = .val τ.v (h.new o) := by
  have := ok.on hw
  rw [if_pos h3] at this
  obtain ⟨x, hx1, hx2⟩ := cls3 (P := P) (e := τ.e) (o := τ.p.o) (g := τ.h.g) (nx := τ.h.next + 1) (by omega)
  have a := hx2 τ.h.bump rfl rfl
  simp only at a
  rw [a] at this
  cases x with
  | none => cases this
  | some vo =>
    obtain ⟨v, o⟩ := vo
    simp only [o3, O3.is.injEq] at this
    obtain ⟨rfl, e2, e3⟩ := this
    exact ⟨o, (hx1 _ _ rfl).1, e2.symm, e3.symm, (hx1 _ _ rfl).2, fun h hg hn => hx2 h hg hn⟩

theorem TOk.le {τ : TE} (ok : TOk P rec L τ) (hle : EvLe rec) : τ.h.next ≤ τ.h2.next := by
  cases hw : τ.want with
  | false => rw [(ok.off hw).2.1]; exact Nat.le_refl _
  | true =>
    have := ok.on hw
    split at this
    · exact Nat.le_trans (Nat.le_succ _) (o3_le hle aop_le this)
    · exact o3_le hle aop_le this
theorem TOk.g {τ : TE} (ok : TOk P rec L τ) (hg : EvG rec) : τ.h2.g = τ.h.g := by
  cases hw : τ.want with
  | false => rw [(ok.off hw).2.1]
  | true =>
    have := ok.on hw
    split at this
    · exact o3_g (h := τ.h.bump) hg aop_g this
    · exact o3_g hg aop_g this

theorem Chain.le (hle : EvLe rec) : ∀ {T : List TE} {e : Env} {h : Hp} {d : List AD} {W : List Watch} {e' : Env} {h' : Hp} {d' : List AD}, Chain P rec L T e h d W e' h' d' → h.next ≤ h'.next ∧ ∀ τ ∈ T, h.next ≤ τ.h.next ∧ τ.h2.next ≤ h'.next
  | [], _, h, _, _, _, _, _, c => ⟨by rw [c.2.1]; exact Nat.le_refl _, fun _ h => by cases h⟩
  | σ :: T, _, h, _, _, _, _, _, c => by
    obtain ⟨q1, q2⟩ := Chain.le hle c.2.2.2.2.2
    have hl := c.2.2.2.2.1.le hle
    have hh : σ.h.next = h.next := by rw [c.2.1]
    refine ⟨by omega, fun τ hτ => ?_⟩
    cases hτ with
    | head => exact ⟨by omega, q1⟩
    | tail _ hτ => have := q2 τ hτ; exact ⟨by omega, this.2⟩
theorem Chain.g (hg : EvG rec) : ∀ {T : List TE} {e : Env} {h : Hp} {d : List AD} {W : List Watch} {e' : Env} {h' : Hp} {d' : List AD}, Chain P rec L T e h d W e' h' d' → h'.g = h.g ∧ ∀ τ ∈ T, τ.h.g = h.g
  | [], _, h, _, _, _, _, _, c => ⟨by rw [c.2.1], fun _ h => by cases h⟩
  | σ :: T, _, h, _, _, _, _, _, c => by
    obtain ⟨q1, q2⟩ := Chain.g hg c.2.2.2.2.2
    have hl := c.2.2.2.2.1.g hg
    have hh : σ.h.g = h.g := by rw [c.2.1]
    refine ⟨q1.trans (hl.trans hh), fun τ hτ => ?_⟩
    cases hτ with
    | head => exact hh
    | tail _ hτ => exact (q2 τ hτ).trans (hl.trans hh)

theorem watch_keep {h : Hp} {b : Nat} : ∀ {W W' : List Watch}, watchOk P h b W = some W' → ∀ i e o v, (i, e, o, v) ∈ W → bit b i = false → (i, e, o, v) ∈ W' ∧ sameOR v (aop P e h o) = true
  | [], W', _, i, e, o, v, hm, _ => by cases hm
  | (j, f, p, u) :: W, W', hw, i, e, o, v, hm, hb => by
    unfold watchOk at hw
    cases hm with
    | head =>
      rw [hb] at hw
      simp only [cond_false] at hw
      cases hs : sameOR u (aop P f h p) with
      | false => rw [hs] at hw; cases hw
      | true =>
        rw [hs] at hw
        simp only [cond_true] at hw
        split at hw
        · injection hw with hw; subst hw; exact ⟨.head _, rfl⟩
        · cases hw
    | tail _ hm =>
      cases hj : bit b j with
      | true => rw [hj] at hw; exact watch_keep (W := W) hw i e o v hm hb
      | false =>
        rw [hj] at hw
        simp only [cond_false] at hw
        cases hs : sameOR u (aop P f h p) with
        | false => rw [hs] at hw; cases hw
        | true =>
          rw [hs] at hw
          simp only [cond_true] at hw
          split at hw
          · rename_i W2 hW2
            injection hw with hw; subst hw
            have := watch_keep (W := W) hW2 i e o v hm hb
            exact ⟨.tail _ this.1, this.2⟩
          · cases hw

theorem sameOR_val {e : Env} {h : Hp} {o : Oper} {v : AV} (hc : clsOf o.op ≤ 1) (hs : sameOR v (aop P e h o) = true) : aop P e h o = .val v h := by
  rcases cls01 (P := P) (e := e) (h := h) (o := o) hc with q | ⟨u, q⟩
  · rw [q] at hs; cases hs
  · rw [q] at hs ⊢
    rw [eqAV_eq (show eqAV u v = true from hs)]

theorem Step.raise {ρ ρ' : Rho} {h h' : Hp} {w w' : World} (s : Step ρ h w ρ' h' w') {N : Nat} (hN : h'.next ≤ N) : Step ρ h w ρ' (h'.upto N) w' :=
  ⟨s.sub, fun b hb => s.keep b (hb.imp id (Nat.le_trans hN)), Nat.le_trans s.next hN, s.g, s.os, s.tape, s.output, s.size, s.loops, s.frame, s.img⟩

theorem Step.more {ρ ρ₁ ρ₂ : Rho} {h h₁ h₂ : Hp} {w w₁ w₂ : World} {N : Nat} (s : Step ρ h w ρ₁ (h₁.upto N) w₁) (t : Step ρ₁ h₁ w₁ ρ₂ h₂ w₂) (hN : h₂.next ≤ N) (hn : h.next ≤ h₁.next) : Step ρ h w ρ₂ (h₂.upto N) w₂ := by
  refine ⟨s.sub.trans t.sub, fun b hb => (t.keep b ?_).trans (s.keep b hb), s.next, t.g.trans s.g, t.os.trans s.os, t.tape.trans s.tape, t.output.trans s.output, Nat.le_trans s.size t.size, fun B L h => let ⟨L', h'⟩ := s.loops B L h; t.loops B L' h', fun B hB hn => ?_, fun b o l g r e => ?_⟩
  · rcases hb with hb | hb
    · exact .inl (Nat.lt_of_lt_of_le hb hn)
    · exact .inr (Nat.le_trans hN hb)
  · refine (t.frame B (Nat.lt_of_lt_of_le hB s.size) fun b o l g r e => ?_).trans (s.frame B hB hn)
    rcases s.img b o l g r e with h | ⟨b₀, o₀, l₀, g₀, r₀, e₀, h⟩
    · omega
    · rw [← h]; exact hn b₀ o₀ l₀ g₀ r₀ e₀
  · rcases t.img b o l g r e with h | ⟨b₀, o₀, l₀, g₀, r₀, e₀, h⟩
    · exact .inl (Nat.le_trans s.size h)
    · rcases s.img b₀ o₀ l₀ g₀ r₀ e₀ with h' | ⟨b₁, o₁, l₁, g₁, r₁, e₁, h'⟩
      · exact .inl (by omega)
      · exact .inr ⟨b₁, o₁, l₁, g₁, r₁, e₁, by omega⟩

/-- Where a block comes from. -/
def Old (ρ : Rho) (h : Hp) (w : World) (l : Loc) : Prop := w.heap.size ≤ l.b ∨ ∃ b₀ o₀ l₀, h.get b₀ = some o₀ ∧ rw o₀ = true ∧ ρ b₀ = some l₀ ∧ l₀.b = l.b

theorem Step.old {ρ ρ₁ : Rho} {h h₁ : Hp} {w w₁ : World} {N : Nat} (s : Step ρ h w ρ₁ (h₁.upto N) w₁) {l : Loc} (o : Old ρ₁ h₁ w₁ l) : Old ρ h w l := by
  rcases o with h | ⟨b₀, o₀, l₀, g₀, r₀, e₀, h⟩
  · exact .inl (Nat.le_trans s.size h)
  · rcases s.img b₀ o₀ l₀ g₀ r₀ e₀ with h' | ⟨b₁, o₁, l₁, g₁, r₁, e₁, h'⟩
    · exact .inl (by omega)
    · exact .inr ⟨b₁, o₁, l₁, g₁, r₁, e₁, by omega⟩

theorem Step.early {ρ ρ₁ ρ₂ : Rho} {h h₁ : Hp} {w w₁ w₂ : World} {N n : Nat} {o : AO} (s : Step ρ h w ρ₁ (h₁.upto N) w₁) (t : Step ρ₁ (h₁.upto n) w₁ ρ₂ ((h₁.upto n).new o) w₂) (hd : ∀ b o, h₁.get b = some o → b < h₁.next) (hn : h₁.next ≤ n) (hN : n + 1 ≤ N) (hh : h.next ≤ h₁.next) : Step ρ h w ρ₂ (h₁.upto N) w₂ := by
  have hget : ∀ b x, h₁.get b = some x → ((h₁.upto n).new o).get b = some x := fun b x g => by
    rw [Hp.get_new_ne]
    · exact g
    · have := hd b x g; show b ≠ n; omega
  refine ⟨s.sub.trans t.sub, fun b hb => (t.keep b ?_).trans (s.keep b hb), s.next, s.g, t.os.trans s.os, t.tape.trans s.tape, t.output.trans s.output, Nat.le_trans s.size t.size, fun B L h => let ⟨L', h'⟩ := s.loops B L h; t.loops B L' h', fun B hB hn => ?_, fun b x l g r e => ?_⟩
  · rcases hb with hb | hb
    · exact .inl (show b < n by omega)
    · exact .inr (Nat.le_trans hN hb)
  · refine (t.frame B (Nat.lt_of_lt_of_le hB s.size) fun b o l g r e => ?_).trans (s.frame B hB hn)
    rcases s.img b o l g r e with h | ⟨b₀, o₀, l₀, g₀, r₀, e₀, h⟩
    · omega
    · rw [← h]; exact hn b₀ o₀ l₀ g₀ r₀ e₀
  · exact s.old (t.img b x l (hget b x g) r e)

theorem Step.absorb {ρ ρ₁ : Rho} {h h₁ : Hp} {w w₁ : World} {N : Nat} {o : AO} (s : Step ρ h w ρ₁ (h₁.upto N) w₁) (ho : ∀ x l, (h₁.bump.new o).get (h₁.next + 1) = some x → ρ₁ (h₁.next + 1) = some l → Old ρ h w l) : Step ρ h w ρ₁ ((h₁.bump.new o).upto N) w₁ :=
  ⟨s.sub, s.keep, s.next, s.g, s.os, s.tape, s.output, s.size, s.loops, s.frame, fun b x l g r e => by
    by_cases n : b = h₁.bump.next
    · subst n; exact ho x l g e
    · exact s.img b x l (by have g' : (h₁.bump.new o).get b = some x := g; rw [Hp.get_new_ne n] at g'; exact g') r e⟩

theorem Pd.upto {ρ : Rho} {base : Bs Λ} {h : Hp} {w : World} {i : Nat} {o : AO} {l : Loc} {N : Nat} : Pd ρ base (h.upto N) w i o l ↔ Pd ρ base h w i o l :=
  ⟨fun p => ⟨p.at_, p.rwo, p.obj, p.low, p.lt, p.sep⟩, fun p => ⟨p.at_, p.rwo, p.obj, p.low, p.lt, p.sep⟩⟩

end
end Go.Ev
