/- The evaluator is right: the induction. -/
import Derived.Test.YtibpgelajmoefaaGreatDoorEv22g
namespace Go.Ev
variable {Λ : Laid}

/-- Where a piece of code leaves a frame. -/
def ExitR (k : List Item) : Ex → List Item → Prop
  | .normal, K => K = k
  | .exit id, K => ∃ k₀, K = .code (.exit id) :: k₀ ∧ exitTo id k₀ = exitTo id k
  | .ret, K => ∃ k₀, K = .code .ret :: k₀

def Head (c : Code) (T : Item) : Prop := T = .code c ∨ ∃ a, c = .loop a ∧ T = .inLoop a

def CodeRuns (Λ : Laid) (P : Program) (rec : Req → Out) : Prop :=
  ∀ c e h d r x e' h' d', rec (.code c e h d r) = .done x e' h' d' → ∀ (ρ : Rho) (base : Bs Λ) (w : World) (b : Frame) (t : Array Value) (ds : List Deferred) (k : List Item) (cs : List Frame) (T : Item),
    Head c T → codeOk r t.size c = true → b.roundOf.isSome = r → KindOk b.kind cs → Inv ρ base h w b t ds e d → Fresh ρ h.next h'.next →
    To P ρ base h w (lone (fr b t ds (T :: k)) cs w) b cs t.size e' h' d' (ExitR k x)
def CallRuns (Λ : Laid) (P : Program) (rec : Req → Out) : Prop := ∀ f args h v h', rec (.call f args h) = .ret v h' → CallOk Λ P f args h v h'

/-- The functions without a body do what the evaluator says. -/
def ExtOk (Λ : Laid) (P : Program) (g : FuncId) (fn : Func) : Prop :=
  ∀ (h : Hp) (args : List AV) (v : AV) (h' : Hp), externA P fn h args = .val v h' → ∀ (A : Array Value) (w : World) (ρ : Rho) (base : Bs Λ), VRL ρ args A.toList → Rel ρ base h w → ρ h.next = none →
    ∃ ρ' V w', (callFunc g A).run P w = .ok (.value V) w' ∧ VR ρ' v V ∧ Rel ρ' base h' w' ∧ Step ρ h w ρ' h' w'

/-- Drawn regions do what the evaluator says. -/
def DrawOk (Λ : Laid) (P : Program) : Prop :=
  ∀ (rec : Req → Out), EvG rec → EvLe rec → CallRuns Λ P rec → ∀ (b : Frame) (k : List Item) (cs : List Frame), KindOk b.kind cs → ∀ (id : Nat) (ops : Array Oper) (n : Nat) (l : List PE), planOf ops.toList = some l →
    (∀ o ∈ ops.toList, dstOk n o.dst = true ∧ (b.roundOf.isSome = true → quietOp o.op = true)) →
    ∀ (ρ : Rho) (base : Bs Λ) (h : Hp) (w : World) (t : Array Value) (ds : List Deferred) (e : Env) (d : List AD) (x : Ex) (e' : Env) (h' : Hp) (d' : List AD), t.size = n →
      Inv ρ base h w b t ds e d → Fresh ρ h.next h'.next → evD P rec ops.toList l e h d [] = .done x e' h' d' →
      x = .normal ∧ To P ρ base h w (lone (fr b t ds (.code (.region id ops true) :: k)) cs w) b cs n e' h' d' (· = k)

structure ProgOk (Λ : Laid) (P : Program) : Prop where
  funcs : ∀ (g : FuncId) (fn : Func), P.funcs[g]? = some fn → (fn.name == "runtime.NumGoroutine") = false ∧ ∀ c, fn.body = some c → codeOk false fn.ntmps c = true
  ext : ∀ (g : FuncId) (fn : Func), P.funcs[g]? = some fn → fn.body = none → ExtOk Λ P g fn
  draw : DrawOk Λ P

section main
variable {P : Program} {rec : Req → Out}

/-- One run after another. -/
theorem To.bind {ρ : Rho} {base : Bs Λ} {h h1 : Hp} {w : World} {m : Machine} {b : Frame} {cs : List Frame} {n : Nat} {e1 e' : Env} {h' : Hp} {d1 d' : List AD} {K K' : List Item → Prop} {d : List AD} {e : Env} {t : Array Value} {ds : List Deferred}
    (hi : Inv ρ base h w b t ds e d) (a : To P ρ base h w m b cs n e1 h1 d1 K)
    (f : ∀ ρ₁ w₁ t₁ ds₁ k₁, K k₁ → t₁.size = n → Inv ρ₁ base h1 w₁ b t₁ ds₁ e1 d1 → Step ρ h w ρ₁ h1 w₁ → To P ρ₁ base h1 w₁ (lone (fr b t₁ ds₁ k₁) cs w₁) b cs n e' h' d' K') : To P ρ base h w m b cs n e' h' d' K' := by
  obtain ⟨ρ1, w1, t1, ds1, k1, s1, hk, ht, he, hd, r1, st1⟩ := a
  obtain ⟨ρ2, w2, t2, ds2, k2, s2, hk2, ht2, he2, hd2, r2, st2⟩ := f ρ1 w1 t1 ds1 k1 hk ht ⟨r1, he, hd, fun l hl => let ⟨L, hL⟩ := hi.rnd l hl; st1.loops l L hL⟩ st1
  exact ⟨ρ2, w2, t2, ds2, k2, s1.trans s2, hk2, ht2, he2, hd2, r2, st1.trans st2⟩

theorem To.imp {ρ : Rho} {base : Bs Λ} {h : Hp} {w : World} {m : Machine} {b : Frame} {cs : List Frame} {n : Nat} {e' : Env} {h' : Hp} {d' : List AD} {K K' : List Item → Prop}
    (a : To P ρ base h w m b cs n e' h' d' K) (f : ∀ k, K k → K' k) : To P ρ base h w m b cs n e' h' d' K' := by
  obtain ⟨ρ1, w1, t1, ds1, k1, s1, hk, r⟩ := a
  exact ⟨ρ1, w1, t1, ds1, k1, s1, f _ hk, r⟩

theorem To.here {ρ : Rho} {base : Bs Λ} {h : Hp} {w : World} {b : Frame} {t : Array Value} {ds : List Deferred} {k : List Item} {cs : List Frame} {e : Env} {d : List AD} {n : Nat} {K : List Item → Prop} (hi : Inv ρ base h w b t ds e d) (ht : t.size = n) (hk : K k) :
    To P ρ base h w (lone (fr b t ds k) cs w) b cs n e h d K := ⟨ρ, w, t, ds, k, Steps.refl P _, hk, ht, hi.env, hi.dfs, hi.rel, .refl _ _ _⟩

theorem seq_run (hle : EvLe rec) (hcode : CodeRuns Λ P rec) {a₂ : Code} {r : Bool} {o : Out} {x : Ex} {e e' : Env} {h h' : Hp} {d d' : List AD} (he : evSeq rec a₂ r o = .done x e' h' d') {ρ : Rho} {base : Bs Λ} {w : World} {b : Frame} {t : Array Value} {ds : List Deferred} {k : List Item} {cs : List Frame} {T : Item} {m : Machine}
    (hT : Head a₂ T) (hkx : ∀ id, exitTo id (T :: k) = exitTo id k) (hc : codeOk r t.size a₂ = true) (hr : b.roundOf.isSome = r) (hk : KindOk b.kind cs) (hi : Inv ρ base h w b t ds e d) (hf : Fresh ρ h.next h'.next)
    (hfirst : ∀ y e1 h1 d1, o = .done y e1 h1 d1 → h1.next ≤ h'.next → To P ρ base h w m b cs t.size e1 h1 d1 (ExitR (T :: k) y)) :
    To P ρ base h w m b cs t.size e' h' d' (ExitR k x) := by
  cases o with
  | no => cases he
  | ret v h1 => cases he
  | done y e1 h1 d1 =>
    cases y with
    | normal =>
      have he : rec (.code a₂ e1 h1 d1 r) = .done x e' h' d' := he
      refine (hfirst _ _ _ _ rfl (hle.code _ _ _ _ _ _ _ _ _ he)).bind hi fun ρ₁ w₁ t₁ ds₁ k₁ hk₁ ht₁ hi₁ st₁ => ?_
      have : k₁ = T :: k := hk₁
      subst this
      rw [← ht₁]
      exact hcode _ _ _ _ _ _ _ _ _ he ρ₁ base w₁ b t₁ ds₁ k cs T hT (by rw [ht₁]; exact hc) hr hk hi₁ (hf.right st₁)
    | exit id =>
      injection he with q1 q2 q3 q4
      subst q1 q2 q3 q4
      exact (hfirst _ _ _ _ rfl (Nat.le_refl _)).imp fun k' ⟨k₀, e1, e2⟩ => ⟨k₀, e1, e2.trans (hkx id)⟩
    | ret =>
      injection he with q1 q2 q3 q4
      subst q1 q2 q3 q4
      exact hfirst _ _ _ _ rfl (Nat.le_refl _)

theorem st_rangeFunc {b : Frame} {t : Array Value} {ds : List Deferred} {k : List Item} {cs : List Frame} {w w₁ : World} {f : Operand} {ps : Array Tmp} {asg body : Code} {l : Nat} {mk : List Deferred}
    (hl : (Instr.enterLoop b.fn t ps asg body b.roundOf).run P w = .ok (l, mk) w₁) :
    (stepG P true { frame := fr b t ds (.code (.rangeFunc f ps asg body) :: k), callers := cs, status := .running, dying := none } w).bare =
      (stepG.apply P true (fr b t (mk ++ ds) (.inRangeFunc l :: k)) cs none (do let d ← Deferred.ofValue (Act.eval ⟨t, ds⟩ f) #[.func (.yield l) #[] #[]]; invoke d.target d.args) w₁).bare := by
  have he : ∀ f : Frame, f.tmps = t → f.eval = Act.eval ⟨t, ds⟩ := by
    intro f hf
    funext x
    cases x <;> simp [Frame.eval, Act.eval, hf]
  simp only [stepG, stepG.exec, fr, Sem.runT_eq, hl, GStep.bare_after, resolve]
  rw [he _ rfl]
  have hm : Array.map (Act.eval ⟨t, ds⟩) #[.const (.func (.yield l) #[] #[])] = #[.func (.yield l) #[] #[]] := by simp [Act.eval]
  rw [hm]

end main
end Go.Ev
