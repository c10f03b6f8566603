/- The end of a function; where a function and a round begin. -/
import Derived.Test.YtibpgelajmoefaaGreatDoorEv21
namespace Go.Ev
variable {Λ : Laid}

section run
variable {P : Program} {base : Bs Λ}

theorem st_mark {g : Frame} {cs : List Frame} {w : World} {B : Nat} {ds : List Deferred} (hm : g.mode = .returning) (hb : w.heap[B]? = some (.deferred (some []))) :
    step P (lone { g with defers := { target := .collected B, args := #[] } :: ds } cs w) = .next (lone { g with defers := ds } cs { w with heap := w.heap.setIfInBounds B (.deferred none) }) := by
  have h1 : (Instr.takeDeferred B).run P w = .ok [] { w with heap := w.heap.setIfInBounds B (.deferred none) } := by
    simp [Instr.takeDeferred, getObj, setObj, Sem.run, hb]
  exact step_lone_go (by simp [stepG, unwind, hm, h1])

theorem left_deferred {g c : Frame} {cs : List Frame} {w : World} {v : Value} (h : Left P g .deferred v w) (hc : c.mode = .returning) : step P (lone g (c :: cs) w) = .next (lone c cs w) := by
  obtain ⟨hm, hd, hk, fn, hf, hr⟩ := h
  exact step_lone_go (by simp [stepG, unwind, doReturn, hm, hd, hk, hf, hr, hc])

theorem of_fn {F : Value} {A : Array Value} {x : Deferred} {ρ : Rho} {f : AV} (hF : VR ρ f F) (hx : Deferred.ofValue F A = pure x) (hf : isFunc f = true) : ∃ g c a, x = { target := .fn (.func g) c, args := a } := by
  unfold isFunc at hf
  split at hf
  · simp only [VR, FnR] at hF
    obtain ⟨F', A', C', rfl, rfl, _⟩ := hF
    simp only [Deferred.ofValue] at hx
    injection hx with hx
    exact ⟨_, _, _, hx.symm⟩
  · cases hf

theorem runD_run {rec : Req → Out} (hle : EvLe rec) (hrec : ∀ f args h v h', rec (.call f args h) = .ret v h' → CallOk Λ P f args h v h') :
    ∀ {d : List AD} {h h' : Hp} {ρ : Rho} {w : World} {ds : List Deferred} (g : Frame) (cs : List Frame), runD rec d h = some h' → g.mode = .returning → Rel ρ base h w → DefR ρ d ds → Fresh ρ h.next h'.next →
      ∃ ρ' w', Steps P (lone { g with defers := ds } cs w) (lone { g with defers := [] } cs w') ∧ Rel ρ' base h' w' ∧ Step ρ h w ρ' h' w'
  | [], h, h', ρ, w, ds, g, cs, he, hm, r, hd, hf => by
    simp only [runD, Option.some.injEq] at he
    subst he
    simp only [DefR] at hd
    subst hd
    exact ⟨ρ, w, Steps.refl P _, r, .refl _ _ _⟩
  | .mark m :: d, h, h', ρ, w, ds, g, cs, he, hm, r, hd, hf => by
    obtain ⟨l, D', rfl, hl, hd⟩ := hd
    simp only [runD] at he
    split at he
    · rename_i hg
      obtain ⟨h0, hb⟩ := r.obj m _ l hg hl
      obtain ⟨r1, s1⟩ := r.turn (o' := .dead) (O := .deferred none) hg rfl hl (by simp) trivial
      obtain ⟨ρ', w', z1, z2, z3⟩ := runD_run hle hrec g cs he hm r1 hd hf
      exact ⟨ρ', w', .head (st_mark hm hb) z1, z2, s1.trans z3⟩
    · cases he
  | .call f args :: d, h, h', ρ, w, ds, g, cs, he, hm, r, hd, hf => by
    obtain ⟨F, A, x, D', rfl, hF, hA, hx, hd⟩ := hd
    simp only [runD] at he
    cases hfn : isFunc f with
    | false => rw [hfn] at he; cases he
    | true =>
      rw [hfn] at he
      simp only [cond_true] at he
      split at he
      · rename_i v h1 hc
        have l2 := runD_le hle he
        obtain ⟨N, w₁, hrun, hN, hnr⟩ := hrec f args _ _ _ hc F A w ρ base hF hA r (hf.left l2)
        rw [hx] at hrun
        have hrun : (invoke x.target x.args).run P w = .ok N w₁ := hrun
        have more : ∀ {V : Value} {w1 : World}, Res ρ base h w v h1 V w1 → Steps P (lone { g with defers := x :: D' } cs w) (lone { g with defers := D' } cs w1) →
            ∃ ρ' w', Steps P (lone { g with defers := x :: D' } cs w) (lone { g with defers := [] } cs w') ∧ Rel ρ' base h' w' ∧ Step ρ h w ρ' h' w' := by
          intro V w1 ⟨ρ1, _, r1, s1⟩ hst
          obtain ⟨ρ2, w2, z1, z2, z3⟩ := runD_run hle hrec g cs he hm r1 (hd.mono s1.sub) (hf.right s1)
          exact ⟨ρ2, w2, Steps.trans hst z1, z2, s1.trans z3⟩
        obtain ⟨fg, fc, fa, hxe⟩ := of_fn hF hx hfn
        subst hxe
        have hu : stepG P true { frame := { g with defers := { target := .fn (.func fg) fc, args := fa } :: D' }, callers := cs, status := .running, dying := none } w =
            callDeferred P { g with defers := D' } cs none { target := .fn (.func fg) fc, args := fa } w := by
          simp [stepG, hm, unwind]
        cases N with
        | value u => exact more hN (.one (step_lone_go (by rw [hu]; simp [callDeferred, hrun])))
        | enter f' a' =>
          obtain ⟨y, V, w1, hs, _, hl, hres⟩ := hN .deferred ({ g with defers := D' } :: cs) (.inr ⟨rfl, _, _, rfl, hm⟩)
          exact more hres (.head (step_lone_go (by rw [hu]; simp [callDeferred, hrun])) (hs.trans (.one (left_deferred hl hm))))
        | round l f' t a b => exact absurd rfl (hnr hfn l f' t a b)
        | _ => exact hN.elim
      · cases he

/-- The arguments in their slots. -/
theorem env0_get : ∀ {vs : List AV} {i : Nat} {e : Env} {t : Nat} {v : AV}, Env.get (env0 vs i e) t = some v → (i ≤ t ∧ vs[t - i]? = some v) ∨ Env.get e t = some v
  | [], i, e, t, v, h => .inr h
  | u :: vs, i, e, t, v, h => by
    change Env.get (env0 vs (i + 1) (setF 11 e i u)) t = some v at h
    rcases env0_get h with ⟨h1, h2⟩ | h
    · refine .inl ⟨by omega, ?_⟩
      rw [show t - i = (t - (i + 1)) + 1 by omega]
      exact h2
    · by_cases ht : t = i
      · subst ht
        have := getF_setF_eq 11 e t u v h
        subst this
        exact .inl ⟨Nat.le_refl _, by simp⟩
      · exact .inr (by rw [← h]; exact (getF_setF_ne 11 e t i u ht).symm)

theorem env0_ok {ρ : Rho} {vs : List AV} {A B : Array Value} (h : VRL ρ vs A.toList) : EnvR ρ (env0 vs 0 .lf) (A ++ B) := by
  intro t v hv
  rcases env0_get hv with ⟨_, h2⟩ | h2
  · obtain ⟨V, a, b⟩ := h.get _ v h2
    rw [Nat.sub_zero, Array.getElem?_toList] at a
    have hlt := (Array.getElem?_eq_some_iff.1 a).1
    rw [Array.getD_eq_getD_getElem?, Array.getElem?_append_left hlt, a]
    exact b
  · simp [Env.get, getF_lf] at h2

theorem putAll_ok {ρ : Rho} {n : Nat} : ∀ {ps : List Tmp} {vs : List AV} {A : List Value} {e e' : Env} {t : Array Value}, putAll ps vs e = some e' → VRL ρ vs A → (∀ d ∈ ps, d < n) → n ≤ t.size → EnvR ρ e t →
    A.length = ps.length ∧ EnvR ρ e' ((ps.zip A).foldl (fun tmps (x : Tmp × Value) => tmps.setIfInBounds x.1 x.2) t) ∧ ((ps.zip A).foldl (fun tmps (x : Tmp × Value) => tmps.setIfInBounds x.1 x.2) t).size = t.size
  | [], [], A, e, e', t, h, hA, _, _, he => by
    simp only [putAll, Option.some.injEq] at h
    subst h
    simp only [VRL] at hA
    subst hA
    exact ⟨rfl, he, rfl⟩
  | p :: ps, v :: vs, A, e, e', t, h, hA, hp, hn, he => by
    simp only [putAll] at h
    simp only [VRL] at hA
    obtain ⟨V, A, rfl, hV, hA⟩ := hA
    have hd := hp p (.head _)
    obtain ⟨q1, q2, q3⟩ := putAll_ok (t := t.setIfInBounds p V) h hA (fun d hd => hp d (.tail _ hd)) (by simpa using hn) (he.set (Nat.lt_of_lt_of_le hd hn) hV)
    exact ⟨by simp [q1], q2, by simpa using q3⟩
  | [], _ :: _, _, _, _, _, h, _, _, _, _ => by simp [putAll] at h
  | _ :: _, [], _, _, _, _, h, _, _, _, _ => by simp [putAll] at h

theorem codeOk_mono : ∀ {c : Code} {r : Bool} {n m : Nat}, n ≤ m → codeOk r n c = true → codeOk r m c = true
  | .region _ ops _, r, n, m, hnm, h => by
    simp only [codeOk, List.all_eq_true] at h ⊢
    intro o ho
    have := h o ho
    rw [Bool.and_eq_true] at this ⊢
    refine ⟨?_, this.2⟩
    have h1 := this.1
    cases hd : o.dst with
    | none => rfl
    | some d =>
      rw [hd] at h1
      simp only [dstOk, blt_iff] at h1 ⊢
      omega
  | .seq a b, r, n, m, hnm, h => by
    simp only [codeOk, Bool.and_eq_true] at h ⊢
    exact ⟨codeOk_mono hnm h.1, codeOk_mono hnm h.2⟩
  | .cond _ a b, r, n, m, hnm, h => by
    simp only [codeOk, Bool.and_eq_true] at h ⊢
    exact ⟨codeOk_mono hnm h.1, codeOk_mono hnm h.2⟩
  | .block _ a, r, n, m, hnm, h => by
    simp only [codeOk] at h ⊢
    exact codeOk_mono hnm h
  | .loop a, r, n, m, hnm, h => by
    simp only [codeOk] at h ⊢
    exact codeOk_mono hnm h
  | .scope a, r, n, m, hnm, h => by
    simp only [codeOk] at h ⊢
    exact codeOk_mono hnm h
  | .rangeFunc _ ps a b, r, n, m, hnm, h => by
    simp only [codeOk, Bool.and_eq_true, List.all_eq_true] at h ⊢
    refine ⟨⟨fun d hd => ?_, codeOk_mono hnm h.1.2⟩, codeOk_mono hnm h.2⟩
    have := h.1.1 d hd
    rw [blt_iff] at this ⊢
    omega
  | .skip, _, _, _, _, _ => rfl
  | .label _, _, _, _, _, _ => rfl
  | .exit _, _, _, _, _, _ => rfl
  | .ret, _, _, _, _, _ => rfl
  | .goto _, _, _, _, _, _ => rfl
  | .refuse _, _, _, _, _, _ => rfl

end run
end Go.Ev
