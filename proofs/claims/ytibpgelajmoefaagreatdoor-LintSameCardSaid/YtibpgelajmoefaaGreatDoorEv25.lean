/- The evaluator is right: calls, rounds, and the induction. -/
import Derived.Test.YtibpgelajmoefaaGreatDoorEv24
namespace Go.Ev
variable {Λ : Laid}

section main
variable {P : Program} {rec : Req → Out}

theorem st_leave0 {b : Frame} {t : Array Value} {ds : List Deferred} {cs : List Frame} {w : World} (hb : b.roundOf = none) : step P (lone (fr b t ds []) cs w) = .next (lone { fr b t ds [] with mode := .returning } cs w) :=
  step_lone_go (by simp [stepG, stepG.exec, fr, hb])
theorem st_leave1 {b : Frame} {t : Array Value} {ds : List Deferred} {k : List Item} {cs : List Frame} {w : World} (hb : b.roundOf = none) : step P (lone (fr b t ds (.code .ret :: k)) cs w) = .next (lone { fr b t ds (.code .ret :: k) with mode := .returning } cs w) :=
  step_lone_go (by simp [stepG, stepG.exec, fr, hb])

theorem callFunc_run {g : FuncId} {fn : Func} {c : Code} {a : Array Value} {w : World} (hfn : P.funcs[g]? = some fn) (hn : (fn.name == "runtime.NumGoroutine") = false) (hb : fn.body = some c) : (callFunc g a).run P w = .ok (.enter g a) w := by
  unfold callFunc
  simp only [program, Sem.run_bind, Sem.run, Result.andThen_ok, hfn, hn, hb, Bool.false_eq_true, if_false, Option.isNone_some]
  rfl

theorem body_run (hP : ProgOk Λ P) (hle : EvLe rec) (hcode : CodeRuns Λ P rec) (hcall : CallRuns Λ P rec) {g : FuncId} {fn : Func} {c : Code} (hfn : P.funcs[g]? = some fn) (hb : fn.body = some c) {vs : List AV} {h h' : Hp} {v : AV}
    (he : evEnd P rec fn (rec (.code c (env0 vs 0 .lf) h [] false)) = .ret v h') {ρ : Rho} {base : Bs Λ} {w : World} {a : Array Value} (ha : VRL ρ vs a.toList) (r : Rel ρ base h w) (hf : Fresh ρ h.next h'.next) :
    NextRuns P ρ base h w v h' w (.enter g a) := by
  intro kind cs hk
  obtain ⟨x, e1, h1, d1, hc, hx, h2, vs', hrd, rfl, hres, hvs⟩ := evEnd_inv he
  have hl2 := runD_le hle hrd
  have hb0 : Frame.enter P g a kind = fr (Frame.enter P g a kind) (a ++ Array.replicate (fn.ntmps - a.size) undef) [] [.code c] := by
    simp [Frame.enter, fr, hfn, hb]
  have hsz : fn.ntmps ≤ (a ++ Array.replicate (fn.ntmps - a.size) undef).size := by simp; omega
  have hi : Inv ρ base h w (Frame.enter P g a kind) (a ++ Array.replicate (fn.ntmps - a.size) undef) [] (env0 vs 0 .lf) [] := ⟨r, env0_ok ha, rfl, fun l hl => by cases hl⟩
  obtain ⟨ρ1, w1, t1, ds1, k1, s1, hk1, ht1, he1, hd1, r1, st1⟩ := hcode _ _ _ _ _ _ _ _ _ hc ρ base w (Frame.enter P g a kind) _ [] [] cs (.code c) (.inl rfl) (codeOk_mono hsz ((hP.funcs g fn hfn).2 c hb)) rfl hk hi (hf.left hl2)
  have hleave : step P (lone (fr (Frame.enter P g a kind) t1 ds1 k1) cs w1) = .next (lone { fr (Frame.enter P g a kind) t1 ds1 k1 with mode := .returning } cs w1) := by
    rcases hx with rfl | rfl
    · have : k1 = [] := hk1
      subst this
      exact st_leave0 rfl
    · obtain ⟨k₀, rfl⟩ := hk1
      exact st_leave1 rfl
  obtain ⟨ρ2, w2, z1, z2, z3⟩ := runD_run hle hcall { fr (Frame.enter P g a kind) t1 ds1 k1 with mode := .returning } cs hrd rfl r1 hd1 (hf.right st1)
  obtain ⟨V, v1, v2⟩ := results_ok (P := P) (fn := fn) (t := t1) z2 (he1.mono z3.sub) hres hvs
  refine ⟨{ fr (Frame.enter P g a kind) t1 ds1 k1 with mode := .returning, defers := [] }, V, w2, ?_, rfl, ⟨rfl, rfl, rfl, fn, hfn, v1⟩, ρ2, v2, z2, st1.trans z3⟩
  rw [hb0]
  exact s1.trans (.head hleave z1)

theorem yield_run {l : Nat} {L : Loop} {a : Array Value} {w : World} (h : w.heap[l]? = some (.loop L)) (ha : a.size = L.params.size) :
    (Instr.yield l a).run P w = .ok (.round l L.fn ((L.params.toList.zip a.toList).foldl (fun tmps (x : Tmp × Value) => tmps.setIfInBounds x.1 x.2) L.tmps) L.assign L.body) w := by
  simp only [Instr.yield, Sem.run_bind, getLoop_run h, Result.andThen_ok]
  rw [if_neg (by simpa using ha)]
  rw [← Array.toList_zip, Array.foldl_toList]
  rfl

theorem st_begin {b : Frame} {t : Array Value} {ds : List Deferred} {k : List Item} {cs : List Frame} {w : World} {l : Nat} {L : Loop} (hb : b.roundOf = some l) (h : w.heap[l]? = some (.loop L)) (hs : L.state = .ready) :
    step P (lone (fr b t ds (.beginRound :: k)) cs w) = .next (lone (fr b t ds k) cs { w with heap := w.heap.setIfInBounds l (.loop { L with state := .busy }) }) := by
  have hrun : (Instr.beginRound l).run P w = .ok () { w with heap := w.heap.setIfInBounds l (.loop { L with state := .busy }) } := by
    simp [Instr.beginRound, getLoop_run h, setObj, Sem.run, h, hs]
  exact step_lone_go (by simp [stepG, stepG.exec, stepG.apply, fr, hb, hrun, Frame.finish])

theorem endRound_run {w : World} {l : Nat} {L : Loop} {j : Option Code} (h : w.heap[l]? = some (.loop L)) :
    (Instr.endRound l j).run P w = .ok (.bool j.isNone) { w with heap := w.heap.setIfInBounds l (.loop { L with state := if j.isNone then .ready else .done, pending := j }) } := by
  simp [Instr.endRound, getLoop_run h, setObj, Sem.run, h]

theorem st_round {b : Frame} {t : Array Value} {ds : List Deferred} {k : List Item} {C : Frame} {cs : List Frame} {w : World} {l : Nat} {L : Loop} {x : Ex} (hb : b.roundOf = some l) (hk : b.kind = .normal) (h : w.heap[l]? = some (.loop L)) (hx : ExitR [] x k) :
    ∃ j, PendR x j ∧ step P (lone (fr b t ds k) (C :: cs) w) = .next (lone (C.finish (.bool j.isNone)) cs { w with heap := w.heap.setIfInBounds l (.loop { L with state := if j.isNone then .ready else .done, pending := j }) }) := by
  cases x with
  | normal =>
    have : k = [] := hx
    subst this
    refine ⟨none, rfl, step_lone_go ?_⟩
    have hr := endRound_run (P := P) (j := none) h
    simp [stepG, stepG.exec, fr, hb, hr, doReturn, hk]
  | exit id =>
    obtain ⟨k₀, rfl, he⟩ := hx
    have he : exitTo id k₀ = none := he
    refine ⟨some (.exit id), rfl, step_lone_go ?_⟩
    have hr := endRound_run (P := P) (j := some (.exit id)) h
    simp [stepG, stepG.exec, fr, hb, hr, doReturn, hk, he]
  | ret =>
    obtain ⟨k₀, rfl⟩ := hx
    refine ⟨some .ret, rfl, step_lone_go ?_⟩
    have hr := endRound_run (P := P) (j := some .ret) h
    simp [stepG, stepG.exec, fr, hb, hr, doReturn, hk]

theorem round_run (hle : EvLe rec) (hcode : CodeRuns Λ P rec) {l : Nat} {cap args : List AV} {h h' : Hp} {v : AV} (he : evY rec l args h (h.get l) = .ret v h') {ρ : Rho} {base : Bs Λ} {w : World} {F : Value} {A : Array Value}
    (hF : VR ρ (.fn (.yield l) [] cap) F) (hA : VRL ρ args A.toList) (r : Rel ρ base h w) (hf : Fresh ρ h.next h'.next) :
    ∃ N w₁, ((do let d ← Deferred.ofValue F A; invoke d.target d.args : Sem Next).run P w = .ok N w₁) ∧ NextRuns P ρ base h w v h' w₁ N ∧ (isFunc (.fn (.yield l) [] cap) = true → ∀ l g t a b, N ≠ .round l g t a b) := by
  obtain ⟨st, pend, en, ps, asg, body, e1, hg, hp, e2, h2, hc, pend2, en2, ps2, asg2, bd2, hg2, x, e3, h3, hc2, st4, pend4, en4, ps4, asg4, bd4, hg4, hx⟩ := evY_inv he
  simp only [VR, FnR, VRL] at hF
  obtain ⟨F', A', C', rfl, ⟨lc, hl, rfl⟩, hA', hC'⟩ := hF
  have hA'' : A' = #[] := by apply Array.ext'; simpa using hA'
  subst hA''
  obtain ⟨h00, L, g1, g2, g3, g4, g5, g6, g7, n, g8, g9, g10, g11⟩ := r.obj _ _ _ hg hl
  obtain ⟨q1, q2, q3⟩ := putAll_ok (n := n) hp hA g11 g10 g4
  have hsz : A.size = L.params.size := by rw [← Array.length_toList, q1, ← g5, Array.length_toList]
  refine ⟨.round lc.b L.fn ((L.params.toList.zip A.toList).foldl (fun tmps (x : Tmp × Value) => tmps.setIfInBounds x.1 x.2) L.tmps) L.assign L.body, w, ?_, ?_, fun q => by cases q⟩
  · show (Instr.yield lc.b (#[] ++ A)).run P w = _
    rw [Array.empty_append]
    exact yield_run g1 hsz
  · intro C cs
    rw [g5, g6, g7]
    generalize ht0 : (ps.zip A.toList).foldl (fun tmps (x : Tmp × Value) => tmps.setIfInBounds x.1 x.2) L.tmps = t0 at q2 q3
    have hb0 : Frame.round lc.b L.fn t0 asg body .normal = fr (Frame.round lc.b L.fn t0 asg body .normal) t0 [] [.code asg, .beginRound, .code body] := rfl
    have hn : h'.next = h3.next := by rcases hx with ⟨_, _, rfl⟩ | ⟨_, _, rfl⟩ <;> rfl
    have l1 := hle.code _ _ _ _ _ _ _ _ _ hc
    have l2 : (h2.set l (.loop 1 pend2 en2 ps2 asg2 bd2)).next ≤ h3.next := hle.code _ _ _ _ _ _ _ _ _ hc2
    have l2 : h2.next ≤ h3.next := l2
    have hi : Inv ρ base h w (Frame.round lc.b L.fn t0 asg body .normal) t0 [] e1 [] := ⟨r, q2, rfl, fun l' hl' => ⟨L, by
      have : lc.b = l' := by injection hl'
      rw [← this]; exact g1⟩⟩
    obtain ⟨ρ1, w1, t1, ds1, k1, s1, hk1, ht1, he1, hd1, r1, st1⟩ := hcode _ _ _ _ _ _ _ _ _ hc ρ base w (Frame.round lc.b L.fn t0 asg body .normal) t0 [] [.beginRound, .code body] (C :: cs) (.code asg) (.inl rfl) (codeOk_mono (by rw [q3]; exact g10) g8) rfl (.inl rfl) hi (hf.left (by rw [hn]; exact l2))
    have hk1 : k1 = [.beginRound, .code body] := hk1
    have hd1 : ds1 = [] := hd1
    subst hk1 hd1
    have hρ1 := st1.sub _ _ hl
    obtain ⟨_, L1, a1, a2, a3, a4, a5, a6, a7, n1, a8, a9, a10, a11⟩ := r1.obj _ _ _ hg2 hρ1
    obtain ⟨r2, st2⟩ := r1.turn (o' := .loop 1 pend2 en2 ps2 asg2 bd2) (O := .loop { L1 with state := .busy }) hg2 rfl hρ1 (by simp) ⟨h00, { L1 with state := .busy }, by
      show (w1.heap.setIfInBounds lc.b _)[lc.b]? = _
      rw [Array.getElem?_setIfInBounds_self_of_lt (r1.lt _ _ hρ1)], rfl, a3, a4, a5, a6, a7, n1, a8, a9, a10, a11⟩ (fun _ => ⟨_, rfl⟩)
    have s2 := st_begin (P := P) (b := Frame.round lc.b L.fn t0 asg body .normal) (t := t1) (ds := []) (k := [.code body]) (cs := C :: cs) rfl a1 a2
    have hi2 : Inv ρ1 base (h2.set l (.loop 1 pend2 en2 ps2 asg2 bd2)) { w1 with heap := w1.heap.setIfInBounds lc.b (.loop { L1 with state := .busy }) } (Frame.round lc.b L.fn t0 asg body .normal) t1 [] e2 [] := ⟨r2, he1, rfl, fun l' hl' => by
      have : lc.b = l' := by injection hl'
      subst this
      exact st2.loops _ _ a1⟩
    obtain ⟨ρ3, w3, t3, ds3, k3, s3, hk3, ht3, he3, hd3, r3, st3⟩ := hcode _ _ _ _ _ _ _ _ _ hc2 ρ1 base _ (Frame.round lc.b L.fn t0 asg body .normal) t1 [] [] (C :: cs) (.code body) (.inl rfl) (codeOk_mono (by rw [ht1, q3]; exact g10) g9) rfl (.inl rfl) hi2 ((hf.right (h' := h2) st1).left (by rw [hn]; exact Nat.le_refl _))
    have hρ3 := st3.sub _ _ hρ1
    obtain ⟨_, L3, b1, b2, b3, b4, b5, b6, b7, n3, b8, b9, b10, b11⟩ := r3.obj _ _ _ hg4 hρ3
    obtain ⟨j, hj, s4⟩ := st_round (P := P) (b := Frame.round lc.b L.fn t0 asg body .normal) (t := t3) (ds := ds3) (C := C) (cs := cs) rfl rfl b1 hk3
    have hself : ∀ o : Obj, (w3.heap.setIfInBounds lc.b o)[lc.b]? = some o := fun o => by rw [Array.getElem?_setIfInBounds_self_of_lt (r3.lt _ _ hρ3)]
    refine ⟨.bool j.isNone, { w3 with heap := w3.heap.setIfInBounds lc.b (.loop { L3 with state := if j.isNone then .ready else .done, pending := j }) }, ?_, ρ3, ?_⟩
    · rw [hb0]
      exact s1.trans (.head s2 (s3.trans (.one s4)))
    · rcases hx with ⟨rfl, rfl, rfl⟩ | ⟨hx, rfl, rfl⟩
      · have hj : j = none := hj
        subst hj
        obtain ⟨r4, st4⟩ := r3.turn (o' := .loop 0 .normal en4 ps4 asg4 bd4) (O := .loop { L3 with state := .ready, pending := none }) hg4 rfl hρ3 (by simp) ⟨h00, _, hself _, rfl, rfl, b4, b5, b6, b7, n3, b8, b9, b10, b11⟩ (fun _ => ⟨_, rfl⟩)
        exact ⟨by simp only [VR]; rfl, r4, ((st1.trans st2).trans st3).trans st4⟩
      · have hjs : j.isNone = false := by
          cases x with
          | normal => exact absurd rfl hx
          | exit id => have : j = some (.exit id) := hj; rw [this]; rfl
          | ret => have : j = some .ret := hj; rw [this]; rfl
        rw [hjs]
        obtain ⟨r4, st4⟩ := r3.turn (o' := .loop 2 x en4 ps4 asg4 bd4) (O := .loop { L3 with state := .done, pending := j }) hg4 rfl hρ3 (by simp) ⟨h00, _, hself _, rfl, hj, b4, b5, b6, b7, n3, b8, b9, b10, b11⟩ (fun _ => ⟨_, rfl⟩)
        exact ⟨by simp only [VR], r4, ((st1.trans st2).trans st3).trans st4⟩

theorem call_run (hP : ProgOk Λ P) (hle : EvLe rec) (hcode : CodeRuns Λ P rec) (hcall : CallRuns Λ P rec) {f : AV} {args : List AV} {h h' : Hp} {v : AV} (he : evCall P rec args h f = .ret v h') : CallOk Λ P f args h v h' := by
  intro F A w ρ base hF hA r hf
  unfold evCall at he
  split at he
  · rename_i g first cap
    simp only [VR, FnR] at hF
    obtain ⟨F', A', C', rfl, rfl, hA', hC'⟩ := hF
    have hall : VRL ρ (first ++ (args ++ cap)) ((A' ++ A) ++ C').toList := by
      rw [Array.toList_append, Array.toList_append, List.append_assoc]
      exact hA'.append (hA.append hC')
    have hinv : ∀ w, (do let d ← Deferred.ofValue (.func (.func g) A' C') A; invoke d.target d.args : Sem Next).run P w = (callFunc g ((A' ++ A) ++ C')).run P w := fun w => rfl
    unfold evFunc at he
    split at he
    · rename_i fn hfn
      unfold evFunc2 at he
      split at he
      · rename_i c hb
        exact ⟨.enter g ((A' ++ A) ++ C'), w, by rw [hinv]; exact callFunc_run hfn (hP.funcs g fn hfn).1 hb, body_run hP hle hcode hcall hfn hb he hall r hf, fun _ l g t a b q => by cases q⟩
      · rename_i hb
        unfold evExt at he
        split at he
        · rename_i u h1 hx
          injection he with q1 q2
          subst q1 q2
          obtain ⟨ρ', V, w', z1, z2, z3, z4⟩ := hP.ext g fn hfn hb h _ _ _ hx _ w ρ base hall r (hf h.next (Nat.le_refl _) (externA_le hx))
          exact ⟨.value V, w', by rw [hinv]; exact z1, ⟨ρ', z2, z3, z4⟩, fun _ l g t a b q => by cases q⟩
        · cases he
    · cases he
  · rename_i l cap
    exact round_run hle hcode he hF hA r hf
  · cases he

/-- The evaluator is right. -/
theorem ev_ok (hP : ProgOk Λ P) : ∀ n, CodeRuns Λ P (ev P n) ∧ CallRuns Λ P (ev P n)
  | 0 => ⟨(fun c e h d r x e' h' d' he => by cases he), (fun f a h v h' he => by cases he)⟩
  | n + 1 =>
    have ih := ev_ok hP n
    ⟨(fun c e h d r x e' h' d' he ρ base w b t ds k cs T hT hc hr hk hi hf => code_run (ev_g n) (ev_le n) ih.1 ih.2 hP.draw he hT hc hr hk hi hf), (fun f a h v h' he => call_run hP (ev_le n) ih.1 ih.2 he)⟩

end main
end Go.Ev
