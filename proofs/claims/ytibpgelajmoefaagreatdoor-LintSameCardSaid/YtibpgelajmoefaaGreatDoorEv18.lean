/- Frames at work: the machine's steps, and one operation among others. -/
import Derived.Test.YtibpgelajmoefaaGreatDoorEv17
import Derived.Calls
namespace Go.Ev
variable {Λ : Laid}

/-- A frame at work. -/
def fr (b : Frame) (t : Array Value) (ds : List Deferred) (k : List Item) : Frame := { b with tmps := t, defers := ds, todo := k, mode := .run }

theorem fr_eval (b : Frame) (t : Array Value) (ds : List Deferred) (k : List Item) : (fr b t ds k).eval = Act.eval ⟨t, ds⟩ := by
  funext x
  cases x <;> rfl

def putT (t : Array Value) (dst : Option Tmp) (v : Value) : Array Value :=
  match dst with
  | some d => t.setIfInBounds d v
  | none => t

theorem putT_size {t : Array Value} {dst : Option Tmp} {v : Value} : (putT t dst v).size = t.size := by cases dst <;> simp [putT]

theorem EnvR.put {ρ : Rho} {e : Env} {t : Array Value} (r : EnvR ρ e t) {d : Option Tmp} {v : AV} {V : Value} (hd : dstOk t.size d = true) (hv : VR ρ v V) : EnvR ρ (Env.put e d v) (putT t d V) := by
  cases d with
  | none => exact r
  | some d => exact r.set (by rw [← blt_iff]; exact hd) hv

section steps
variable {P : Program} {b : Frame} {t : Array Value} {ds : List Deferred} {k : List Item} {cs : List Frame} {w : World}

theorem st_skip : step P (lone (fr b t ds (.code .skip :: k)) cs w) = .next (lone (fr b t ds k) cs w) := step_lone_go (by simp [stepG, stepG.exec, fr])
theorem st_label {l : Nat} : step P (lone (fr b t ds (.code (.label l) :: k)) cs w) = .next (lone (fr b t ds k) cs w) := step_lone_go (by simp [stepG, stepG.exec, fr])
theorem st_inBlock {l : Nat} : step P (lone (fr b t ds (.inBlock l :: k)) cs w) = .next (lone (fr b t ds k) cs w) := step_lone_go (by simp [stepG, stepG.exec, fr])
theorem st_inScope {c : Code} : step P (lone (fr b t ds (.inScope c :: k)) cs w) = .next (lone (fr b t ds k) cs w) := step_lone_go (by simp [stepG, stepG.exec, fr])
theorem st_seq {x y : Code} : step P (lone (fr b t ds (.code (.seq x y) :: k)) cs w) = .next (lone (fr b t ds (.code x :: .code y :: k)) cs w) := step_lone_go (by simp [stepG, stepG.exec, fr])
theorem st_cond {c : Operand} {x y : Code} {q : Bool} (h : Act.eval ⟨t, ds⟩ c = .bool q) : step P (lone (fr b t ds (.code (.cond c x y) :: k)) cs w) = .next (lone (fr b t ds (.code (if q then x else y) :: k)) cs w) :=
  step_lone_go (by
    have := congrFun (fr_eval b t ds (.code (.cond c x y) :: k)) c
    simp only [fr] at this
    simp [stepG, stepG.exec, fr, this, h])
theorem st_block {l : Nat} {c : Code} : step P (lone (fr b t ds (.code (.block l c) :: k)) cs w) = .next (lone (fr b t ds (.code c :: .inBlock l :: k)) cs w) := step_lone_go (by simp [stepG, stepG.exec, fr])
theorem st_loop {c : Code} : step P (lone (fr b t ds (.code (.loop c) :: k)) cs w) = .next (lone (fr b t ds (.code c :: .inLoop c :: k)) cs w) := step_lone_go (by simp [stepG, stepG.exec, fr])
theorem st_inLoop {c : Code} : step P (lone (fr b t ds (.inLoop c :: k)) cs w) = .next (lone (fr b t ds (.code c :: .inLoop c :: k)) cs w) := step_lone_go (by simp [stepG, stepG.exec, fr])
theorem st_scope {c : Code} : step P (lone (fr b t ds (.code (.scope c) :: k)) cs w) = .next (lone (fr b t ds (.code c :: .inScope c :: k)) cs w) := step_lone_go (by simp [stepG, stepG.exec, fr])
theorem st_exit {l : Nat} {k' : List Item} (h : exitTo l k = some k') : step P (lone (fr b t ds (.code (.exit l) :: k)) cs w) = .next (lone (fr b t ds k') cs w) := step_lone_go (by simp [stepG, stepG.exec, fr, h])
theorem st_region {id : Nat} {ops : Array Oper} : step P (lone (fr b t ds (.code (.region id ops false) :: k)) cs w) = .next (lone (fr b t ds (.inRegion ops (List.range ops.size) :: k)) cs w) := step_lone_go (by simp [stepG, stepG.exec, fr])
theorem st_draw {id : Nat} {ops : Array Oper} : step P (lone (fr b t ds (.code (.region id ops true) :: k)) cs w) = .next (lone (fr b t ds (.inRegion ops (Region.schedule (P.follows .mixedOrders) ops ((Question.order b.fn id).cut (w.tape w.drawn (.order b.fn id)))) :: k)) cs { w with drawn := w.drawn + 1 }) :=
  step_lone_go (by simp [stepG, stepG.exec, fr, choose, Sem.run, Question.forced])
theorem st_end {ops : Array Oper} : step P (lone (fr b t ds (.inRegion ops [] :: k)) cs w) = .next (lone (fr b t ds k) cs w) := step_lone_go (by simp [stepG, stepG.exec, fr])

theorem finish_fr {ops : Array Oper} {i : Nat} {rest : List Nat} {o : Oper} {v : Value} (ho : ops[i]? = some o) : (fr b t ds (.inRegion ops (i :: rest) :: k)).finish v = fr b (putT t o.dst v) ds (.inRegion ops rest :: k) := by
  cases h : o.dst <;> simp [Frame.finish, fr, putT, ho, h]

theorem st_off {ops : Array Oper} {i : Nat} {rest : List Nat} {o : Oper} (ho : ops[i]? = some o) (hw : Region.wanted o (yielded ops t) = false) :
    step P (lone (fr b t ds (.inRegion ops (i :: rest) :: k)) cs w) = .next (lone (fr b (putT t o.dst undef) ds (.inRegion ops rest :: k)) cs w) := by
  rw [← finish_fr ho]
  exact step_lone_go (by simp [stepG, stepG.exec, fr, ho, hw])

theorem stepG_at {ops : Array Oper} {i : Nat} {rest : List Nat} {o : Oper} (ho : ops[i]? = some o) (hw : Region.wanted o (yielded ops t) = true) (hq : b.roundOf = none ∨ ∀ c, o.op ≠ .defer c) :
    stepG P true { frame := fr b t ds (.inRegion ops (i :: rest) :: k), callers := cs, status := .running, dying := none } w =
      stepG.apply P true (fr b t ds (.inRegion ops (i :: rest) :: k)) cs none (execOp (Act.eval ⟨t, ds⟩) o) w := by
  have he : ∀ f : Frame, f.tmps = t → f.eval = Act.eval ⟨t, ds⟩ := by
    intro f hf
    funext x
    cases x <;> simp [Frame.eval, Act.eval, hf]
  simp only [stepG, stepG.exec, fr, ho, hw, Option.map_some, Option.getD_some, if_true, stepG.oper, Frame.oper?]
  rcases hq with hq | hq
  · simp only [hq]
    rw [he _ rfl]
  · cases hb : b.roundOf with
    | none => simp only; rw [he _ rfl]
    | some l =>
      cases hop : o.op <;> first | exact absurd hop (hq _) | (simp only; rw [he _ rfl])

end steps

/-- What is deferred. -/
def DefR (ρ : Rho) : List AD → List Deferred → Prop
  | [], D => D = []
  | .mark m :: d, D => ∃ l D', D = { target := .collected l.b, args := #[] } :: D' ∧ ρ m = some l ∧ DefR ρ d D'
  | .call f args :: d, D => ∃ F A x D', D = x :: D' ∧ VR ρ f F ∧ VRL ρ args A.toList ∧ Deferred.ofValue F A = pure x ∧ DefR ρ d D'

theorem DefR.mono {ρ ρ' : Rho} (h : Sub ρ ρ') : ∀ {d : List AD} {D : List Deferred}, DefR ρ d D → DefR ρ' d D
  | [], _, r => r
  | .mark _ :: _, _, r => by
    obtain ⟨l, D', e, a, r⟩ := r
    exact ⟨l, D', e, h _ _ a, r.mono h⟩
  | .call _ _ :: _, _, r => by
    obtain ⟨F, A, x, D', e, a, b, c, r⟩ := r
    exact ⟨F, A, x, D', e, a.mono h, b.mono h, c, r.mono h⟩

/-- Slots that no block has yet. -/
def Fresh (ρ : Rho) (a b : Nat) : Prop := ∀ i, a ≤ i → i ≤ b → ρ i = none

def KindOk (k : CallKind) (cs : List Frame) : Prop := k = .normal ∨ (k = .deferred ∧ ∃ c rest, cs = c :: rest ∧ c.mode = .returning)

theorem tryRecover_none {f : Frame} {cs : List Frame} (h : KindOk f.kind cs) : tryRecover f cs = none := by
  rcases h with h | ⟨h, c, rest, rfl, hm⟩
  · unfold tryRecover
    rw [h]
  · unfold tryRecover
    rw [h]
    simp [hm]

/-- A frame that is about to be left. -/
def Left (P : Program) (f : Frame) (kind : CallKind) (v : Value) (w : World) : Prop :=
  f.mode = .returning ∧ f.defers = [] ∧ f.kind = kind ∧ ∃ fn, P.funcs[f.fn]? = some fn ∧ (results fn f.tmps).run P w = .ok v w

def Res (ρ : Rho) (base : Bs Λ) (h : Hp) (w : World) (v : AV) (h' : Hp) (V : Value) (w' : World) : Prop := ∃ ρ', VR ρ' v V ∧ Rel ρ' base h' w' ∧ Step ρ h w ρ' h' w'

def NextRuns (P : Program) (ρ : Rho) (base : Bs Λ) (h : Hp) (w : World) (v : AV) (h' : Hp) (w₁ : World) : Next → Prop
  | .value V => Res ρ base h w v h' V w₁
  | .enter f a => ∀ kind cs, KindOk kind cs → ∃ g V w', Steps P (lone (Frame.enter P f a kind) cs w₁) (lone g cs w') ∧ g.fn = f ∧ Left P g kind V w' ∧ Res ρ base h w v h' V w'
  | .round l f t a b => ∀ C cs, ∃ V w', Steps P (lone (Frame.round l f t a b .normal) (C :: cs) w₁) (lone (C.finish V) cs w') ∧ Res ρ base h w v h' V w'
  | _ => False

def CallOk (Λ : Laid) (P : Program) (f : AV) (args : List AV) (h : Hp) (v : AV) (h' : Hp) : Prop :=
  ∀ (F : Value) (A : Array Value) (w : World) (ρ : Rho) (base : Bs Λ), VR ρ f F → VRL ρ args A.toList → Rel ρ base h w → Fresh ρ h.next h'.next →
    ∃ N w₁, ((do let d ← Deferred.ofValue F A; invoke d.target d.args : Sem Next).run P w = .ok N w₁) ∧ NextRuns P ρ base h w v h' w₁ N ∧ (isFunc f = true → ∀ l g t a b, N ≠ .round l g t a b)

theorem left_step {P : Program} {g c : Frame} {cs : List Frame} {w : World} {v : Value} (h : Left P g .normal v w) : step P (lone g (c :: cs) w) = .next (lone (c.finish v) cs w) := by
  obtain ⟨hm, hd, hk, fn, hf, hr⟩ := h
  exact step_lone_go (by simp [stepG, unwind, doReturn, hm, hd, hk, hf, hr])

section op
variable {P : Program} {ρ : Rho} {base : Bs Λ} {h : Hp} {w : World}

theorem op_run {b : Frame} {t : Array Value} {ds : List Deferred} {k : List Item} {cs : List Frame} {ops : Array Oper} {i : Nat} {rest : List Nat} {o : Oper} {rec : Req → Out} {e : Env} {d d' : List AD} {v : AV} {h' : Hp}
    (ho : ops[i]? = some o) (hw : Region.wanted o (yielded ops t) = true) (hq : b.roundOf.isSome = true → quietOp o.op = true) (hk : KindOk b.kind cs)
    (hev : o3 rec h d (aop P e h o) = .is v h' d') (hrec : ∀ f args v h', rec (.call f args h) = .ret v h' → CallOk Λ P f args h v h')
    (hop : ∀ x ∈ o.op.operands.toList, ∀ v, opd h.g e x = some v → VR ρ v (Act.eval ⟨t, ds⟩ x)) (r : Rel ρ base h w) (hf : Fresh ρ h.next h'.next) (hn : h.next ≤ h'.next) (hd : DefR ρ d ds) :
    ∃ ρ' w' V ds', Steps P (lone (fr b t ds (.inRegion ops (i :: rest) :: k)) cs w) (lone (fr b (putT t o.dst V) ds' (.inRegion ops rest :: k)) cs w') ∧
      VR ρ' v V ∧ Rel ρ' base h' w' ∧ Step ρ h w ρ' h' w' ∧ DefR ρ' d' ds' := by
  have hq' : b.roundOf = none ∨ ∀ c, o.op ≠ .defer c := by
    cases hb : b.roundOf with
    | none => exact .inl rfl
    | some l =>
      refine .inr fun c hc => ?_
      have := hq (by rw [hb]; rfl)
      rw [hc] at this
      cases this
  have hg := stepG_at (P := P) (b := b) (ds := ds) (k := k) (cs := cs) (w := w) (rest := rest) ho hw hq'
  have hok := aop_ok (P := P) r (hf h.next (Nat.le_refl _) hn) o hop
  cases hR : aop P e h o with
  | val u h1 =>
    rw [hR] at hev hok
    simp only [o3, O3.is.injEq] at hev
    obtain ⟨rfl, rfl, rfl⟩ := hev
    obtain ⟨ρ', N, w', hrun, r1, r2, hN⟩ := hok
    rcases hN with ⟨V, rfl, hV⟩ | ⟨rfl, rfl, hqf⟩
    · refine ⟨ρ', w', V, ds, .one (step_lone_go ?_), hV, r1, r2, hd.mono r2.sub⟩
      rw [hg, ← finish_fr ho]; simp [stepG.apply, hrun]
    · refine ⟨ρ', w', .nilIface, ds, .one (step_lone_go ?_), by simp only [VR], r1, r2, hd.mono r2.sub⟩
      have hnr : b.roundOf = none := by
        cases hb : b.roundOf with
        | none => rfl
        | some l =>
          exfalso
          have hqo := hq (by rw [hb]; rfl)
          rw [hqf] at hqo
          cases hqo
      have htr : tryRecover (fr b t ds (.inRegion ops (i :: rest) :: k)) cs = none := tryRecover_none hk
      rw [hg, ← finish_fr ho]
      simp [fr, hnr] at htr
      simp [stepG.apply, hrun, fr, hnr, htr]
  | skip h1 =>
    rw [hR] at hev hok
    simp only [o3, O3.is.injEq] at hev
    obtain ⟨rfl, rfl, rfl⟩ := hev
    obtain ⟨w', hrun, r1, r2⟩ := hok
    refine ⟨ρ, w', undef, ds, .one (step_lone_go ?_), by simp only [VR]; exact ⟨_, rfl, .nil⟩, r1, r2, hd⟩
    rw [hg, ← finish_fr ho]; simp [stepG.apply, hrun]
  | call f args =>
    rw [hR] at hev hok
    simp only [o3] at hev
    cases hc : rec (.call f args h) with
    | ret u h1 =>
      rw [hc] at hev
      simp only [o3Call, O3.is.injEq] at hev
      obtain ⟨rfl, rfl, rfl⟩ := hev
      obtain ⟨F, A, hF, hA, hex⟩ := hok
      obtain ⟨N, w₁, hrun, hN, _⟩ := hrec f args _ _ hc F A w ρ base hF hA r hf
      rw [hex] at hg
      cases N with
      | value u =>
        obtain ⟨ρ', hV, r1, r2⟩ := hN
        refine ⟨ρ', w₁, u, ds, ?_, hV, r1, r2, hd.mono r2.sub⟩
        rw [← finish_fr ho]
        exact .one (step_lone_go (by rw [hg]; simp [stepG.apply, hrun]))
      | enter g a =>
        obtain ⟨x, V, w', hs, _, hl, ρ', hV, r1, r2⟩ := hN .normal (fr b t ds (.inRegion ops (i :: rest) :: k) :: cs) (.inl rfl)
        refine ⟨ρ', w', V, ds, ?_, hV, r1, r2, hd.mono r2.sub⟩
        rw [← finish_fr ho]
        exact .head (step_lone_go (by rw [hg]; simp [stepG.apply, hrun, fr])) (hs.trans (.one (left_step hl)))
      | round l g a x y =>
        obtain ⟨V, w', hs, ρ', hV, r1, r2⟩ := hN (fr b t ds (.inRegion ops (i :: rest) :: k)) cs
        refine ⟨ρ', w', V, ds, ?_, hV, r1, r2, hd.mono r2.sub⟩
        rw [← finish_fr ho]
        exact .head (step_lone_go (by rw [hg]; simp [stepG.apply, hrun, fr])) hs
      | _ => exact hN.elim
    | done x e h d => rw [hc] at hev; cases hev
    | no => rw [hc] at hev; cases hev
  | dfr f args =>
    rw [hR] at hev hok
    simp only [o3] at hev
    obtain ⟨c, F, A, hoc, hF, hA, hres⟩ := hok
    cases hfn : isFunc f with
    | false => rw [hfn] at hev; cases hev
    | true =>
      rw [hfn] at hev
      simp only [cond_true, O3.is.injEq] at hev
      obtain ⟨rfl, rfl, rfl⟩ := hev
      have hx : ∃ x, Deferred.ofValue F A = pure x := by
        unfold isFunc at hfn
        split at hfn
        · simp only [VR] at hF
          obtain ⟨F', A', C', rfl, _⟩ := hF
          exact ⟨_, rfl⟩
        · cases hfn
      obtain ⟨x, hx⟩ := hx
      refine ⟨ρ, w, undef, x :: ds, .one (step_lone_go ?_), by simp only [VR]; exact ⟨_, rfl, .nil⟩, r, .refl _ _ _, ⟨F, A, x, ds, rfl, hF, hA, hx, hd⟩⟩
      have hrun : (execOp (Act.eval ⟨t, ds⟩) o).run P w = .ok (.defer x) w := by
        have : execOp (Act.eval ⟨t, ds⟩) o = (do pure (.defer (← resolve (Act.eval ⟨t, ds⟩) c o.type))) := by
          unfold execOp
          rw [hoc]
        rw [this, hres, hx]
        rfl
      have hfin : ({ fr b t ds (.inRegion ops (i :: rest) :: k) with defers := x :: ds } : Frame).finish undef = fr b (putT t o.dst undef) (x :: ds) (.inRegion ops rest :: k) := finish_fr (ds := x :: ds) ho
      rw [hg, ← hfin]
      simp [stepG.apply, hrun, fr]
  | no => rw [hR] at hev; cases hev

end op
end Go.Ev
