/- The evaluator is right: pieces of code. -/
import Derived.Test.YtibpgelajmoefaaGreatDoorEv23
namespace Go.Ev
variable {Λ : Laid}

section main
variable {P : Program} {rec : Req → Out}

theorem newObj_run {w : World} (o : Obj) : (newObj o).run P w = .ok w.heap.size { w with heap := w.heap.push o } := rfl
theorem getLoop_run {w : World} {l : Nat} {L : Loop} (h : w.heap[l]? = some (.loop L)) : (Instr.getLoop l).run P w = .ok L w := by
  simp [Instr.getLoop, getObj, Sem.run, h]

def exItems (k : List Item) : Ex → List Item
  | .normal => k
  | .exit id => .code (.exit id) :: k
  | .ret => .code .ret :: k
theorem ExitR.here {k : List Item} {x : Ex} : ExitR k x (exItems k x) := by
  cases x with
  | normal => rfl
  | exit id => exact ⟨k, rfl, rfl⟩
  | ret => exact ⟨k, rfl⟩

theorem codeOk_reg {r : Bool} {n id : Nat} {ops : Array Oper} {dr : Bool} {b : Frame} (hr : b.roundOf.isSome = r) (h : codeOk r n (.region id ops dr) = true) : ∀ o ∈ ops.toList, dstOk n o.dst = true ∧ (b.roundOf.isSome = true → quietOp o.op = true) := by
  intro o ho
  have := List.all_eq_true.1 h o ho
  rw [Bool.and_eq_true] at this
  refine ⟨this.1, fun hb => ?_⟩
  have h2 := this.2
  rw [← hr, hb] at h2
  simpa using h2

/-- A loop over a function's rounds, once its blocks are there. -/
theorem rf_run (hle : EvLe rec) (hcall : CallRuns Λ P rec) {e : Env} {h : Hp} {d : List AD} {ps : Array Tmp} {asg body : Code} {fv : AV} {x : Ex} {e' : Env} {h' : Hp} {d' : List AD} (he : evRF1 rec e h d ps.toList asg body fv = .done x e' h' d')
    {ρ : Rho} {base : Bs Λ} {w w0 : World} {b : Frame} {t : Array Value} {ds mk : List Deferred} {k : List Item} {cs : List Frame} {f : Operand} {B : Nat} (hB : B = w.heap.size)
    {L : Loop} (hL : L.state = .ready ∧ L.pending = none ∧ L.tmps = t ∧ L.params = ps ∧ L.assign = asg ∧ L.body = body)
    (hl : (Instr.enterLoop b.fn t ps asg body b.roundOf).run P w0 = .ok (B, mk) { w with heap := w.heap.push (.loop L) })
    (hfv : VR ρ fv (Act.eval ⟨t, ds⟩ f)) (hok : codeOk true t.size asg = true ∧ codeOk true t.size body = true ∧ ∀ q ∈ ps.toList, q < t.size) (hi : Inv ρ base h w b t (mk ++ ds) e d) (hf : Fresh ρ h.next h'.next) :
    To P ρ base h w (lone (fr b t ds (.code (.rangeFunc f ps asg body) :: k)) cs w0) b cs t.size e' h' d' (ExitR k x) := by
  subst hB
  obtain ⟨v, h1, st, pend, en, ps', asg', body', hc, hg1, hst, rfl, rfl, rfl, rfl⟩ := evRF_inv he
  have hnn : ρ h.next = none := hf h.next (Nat.le_refl _) (Nat.le_trans (Nat.le_succ _) (hle.call _ _ _ _ _ hc))
  obtain ⟨r1, s1⟩ := hi.rel.fresh (o := .loop 0 .normal e' ps.toList asg body) (O := .loop L) (l := ⟨w.heap.size, 0, 0⟩) hnn rfl (by simp)
    ⟨rfl, L, by simp, hL.1, hL.2.1, by rw [hL.2.2.1]; exact hi.env.mono (Sub.upd hnn), by rw [hL.2.2.2.1], hL.2.2.2.2.1, hL.2.2.2.2.2, t.size, hok.1, hok.2.1, by rw [hL.2.2.1]; exact Nat.le_refl _, hok.2.2⟩
  have hy : VRL (upd ρ h.next ⟨w.heap.size, 0, 0⟩) [.fn (.yield h.next) [] []] (#[Value.func (.yield w.heap.size) #[] #[]]).toList := by
    refine .cons ?_ .nil
    simp only [VR, FnR]
    exact ⟨_, _, _, rfl, ⟨_, upd_eq _ _ _, rfl⟩, .nil, .nil⟩
  obtain ⟨N, w₁, hrun, hN, _⟩ := hcall _ _ _ _ _ hc (Act.eval ⟨t, ds⟩ f) #[.func (.yield w.heap.size) #[] #[]] { w with heap := w.heap.push (.loop L) } _ base (hfv.mono s1.sub) hy r1 (hf.right s1)
  have hfin : ∀ u, (fr b t (mk ++ ds) (.inRangeFunc w.heap.size :: k)).finish u = fr b t (mk ++ ds) (.endRangeFunc w.heap.size :: k) := fun u => rfl
  have hg := st_rangeFunc (P := P) (b := b) (t := t) (ds := ds) (k := k) (cs := cs) (f := f) hl
  have more : ∀ {V : Value} {w2 : World}, Res (upd ρ h.next ⟨w.heap.size, 0, 0⟩) base (h.new (.loop 0 .normal e' ps.toList asg body)) { w with heap := w.heap.push (.loop L) } v h1 V w2 →
      Steps P (lone (fr b t ds (.code (.rangeFunc f ps asg body) :: k)) cs w0) (lone (fr b t (mk ++ ds) (.endRangeFunc w.heap.size :: k)) cs w2) →
      To P ρ base h w (lone (fr b t ds (.code (.rangeFunc f ps asg body) :: k)) cs w0) b cs t.size e' (h1.set h.next (.loop 3 x en ps' asg' body')) d' (ExitR k x) := by
    intro V w2 ⟨ρ2, hV, r2, s2⟩ hst2
    have hρ : ρ2 h.next = some ⟨w.heap.size, 0, 0⟩ := s2.sub _ _ (upd_eq _ _ _)
    obtain ⟨h00, L2, g1, g2, g3, g4, g5, g6, g7, g8⟩ := r2.obj _ _ _ hg1 hρ
    have hbusy : L2.state ≠ .busy := fun q => by
      rw [q] at g2
      match st, g2, hst with
      | 0, g2, _ => cases g2
      | 1, _, hst => exact hst rfl
      | 2, g2, _ => cases g2
      | 3, g2, _ => cases g2
    obtain ⟨r3, s3⟩ := r2.turn (o' := .loop 3 x en ps' asg' body') (O := .loop { L2 with state := .exhausted }) hg1 rfl hρ (by simp) ⟨rfl, { L2 with state := .exhausted }, by
      show (w2.heap.setIfInBounds w.heap.size _)[w.heap.size]? = _
      rw [Array.getElem?_setIfInBounds_self_of_lt (r2.lt _ _ hρ)], rfl, g3, g4, g5, g6, g7, g8⟩ (fun _ => ⟨_, rfl⟩)
    have hend : (Instr.endLoop w.heap.size).run P w2 = .ok L2.pending { w2 with heap := w2.heap.setIfInBounds w.heap.size (.loop { L2 with state := .exhausted }) } := by
      simp [Instr.endLoop, Instr.getLoop, getObj, setObj, Sem.run, g1, hbusy]
    refine ⟨ρ2, _, t, mk ++ ds, _, ?_, ExitR.here, rfl, hi.env.mono (s1.sub.trans s2.sub), hi.dfs.mono (s1.sub.trans s2.sub), r3, (s1.trans s2).trans s3⟩
    have hlast : step P (lone (fr b t (mk ++ ds) (.endRangeFunc w.heap.size :: k)) cs w2) = .next (lone (fr b t (mk ++ ds) ((L2.pending.map Item.code).toList ++ k)) cs { w2 with heap := w2.heap.setIfInBounds w.heap.size (.loop { L2 with state := .exhausted }) }) :=
      step_lone_go (by simp [stepG, stepG.exec, fr, hend])
    have hk' : (L2.pending.map Item.code).toList ++ k = exItems k x := by
      cases x with
      | normal => have q : L2.pending = none := g3; simp only [q]; rfl
      | exit id => have q : L2.pending = some (.exit id) := g3; simp only [q]; rfl
      | ret => have q : L2.pending = some .ret := g3; simp only [q]; rfl
    rw [hk'] at hlast
    exact hst2.trans (.one hlast)
  cases N with
  | value u => exact more hN (.one (step_lone_go (by rw [hg, ← hfin u]; simp only [stepG.apply, Sem.runT_eq, if_true, hrun, GStep.bare_after]; rfl)))
  | enter g a =>
    obtain ⟨y, V, w2, hs, _, hl', hres⟩ := hN .normal (fr b t (mk ++ ds) (.inRangeFunc w.heap.size :: k) :: cs) (.inl rfl)
    refine more hres (.head (step_lone_go (by rw [hg]; simp only [stepG.apply, Sem.runT_eq, if_true, hrun, GStep.bare_after]; rfl)) (hs.trans (.one ?_)))
    rw [← hfin V]
    exact left_step hl'
  | round l g a x' y =>
    obtain ⟨V, w2, hs, hres⟩ := hN (fr b t (mk ++ ds) (.inRangeFunc w.heap.size :: k)) cs
    refine more hres (.head (step_lone_go (by rw [hg]; simp only [stepG.apply, Sem.runT_eq, if_true, hrun, GStep.bare_after]; rfl)) ?_)
    rw [← hfin V]
    exact hs
  | _ => exact hN.elim

theorem code_run (hev : EvG rec) (hle : EvLe rec) (hcode : CodeRuns Λ P rec) (hcall : CallRuns Λ P rec) (hdraw : DrawOk Λ P) {c : Code} {e : Env} {h : Hp} {d : List AD} {r : Bool} {x : Ex} {e' : Env} {h' : Hp} {d' : List AD} (he : evCode P rec e h d r c = .done x e' h' d')
    {ρ : Rho} {base : Bs Λ} {w : World} {b : Frame} {t : Array Value} {ds : List Deferred} {k : List Item} {cs : List Frame} {T : Item} (hT : Head c T) (hc : codeOk r t.size c = true) (hr : b.roundOf.isSome = r) (hk : KindOk b.kind cs)
    (hi : Inv ρ base h w b t ds e d) (hf : Fresh ρ h.next h'.next) : To P ρ base h w (lone (fr b t ds (T :: k)) cs w) b cs t.size e' h' d' (ExitR k x) := by
  cases c <;> simp only [evCode] at he
  case skip =>
    rcases hT with rfl | ⟨a, q, _⟩
    · injection he with q1 q2 q3 q4
      subst q1 q2 q3 q4
      exact .head st_skip (.here hi rfl rfl)
    · cases q
  case label l =>
    rcases hT with rfl | ⟨a, q, _⟩
    · injection he with q1 q2 q3 q4
      subst q1 q2 q3 q4
      exact .head st_label (.here hi rfl rfl)
    · cases q
  case exit id =>
    rcases hT with rfl | ⟨a, q, _⟩
    · injection he with q1 q2 q3 q4
      subst q1 q2 q3 q4
      exact .here hi rfl ⟨k, rfl, rfl⟩
    · cases q
  case ret =>
    rcases hT with rfl | ⟨a, q, _⟩
    · injection he with q1 q2 q3 q4
      subst q1 q2 q3 q4
      exact .here hi rfl ⟨k, rfl⟩
    · cases q
  case goto l => cases he
  case refuse y => cases he
  case region id ops draw =>
    rcases hT with rfl | ⟨a, q, _⟩
    · have hreg := codeOk_reg hr hc
      cases draw with
      | false =>
        simp only [cond_false] at he
        obtain ⟨q1, q2⟩ := evOps_run hle hcall hk (k := k) (cs := cs) (n := t.size) (i := 0) (fun j => by rw [Nat.zero_add, Array.getElem?_toList]) hreg rfl hi hf he
        subst q1
        refine .head st_region ?_
        rw [List.range_eq_range', ← Array.length_toList]
        exact q2
      | true =>
        simp only [cond_true] at he
        cases hp : planOf ops.toList with
        | none => rw [hp] at he; cases he
        | some l =>
          rw [hp] at he
          obtain ⟨q1, q2⟩ := hdraw rec hev hle hcall b k cs hk id ops t.size l hp hreg ρ base h w t ds e d x e' h' d' rfl hi hf he
          subst q1
          exact q2
    · cases q
  case seq a a₂ =>
    rcases hT with rfl | ⟨_, q, _⟩
    · simp only [codeOk, Bool.and_eq_true] at hc
      refine .head st_seq (seq_run hle hcode he (.inl rfl) (fun id => rfl) hc.2 hr hk hi hf fun y e1 h1 d1 ho hn => ?_)
      exact hcode _ _ _ _ _ _ _ _ _ ho ρ base w b t ds (.code a₂ :: k) cs _ (.inl rfl) hc.1 hr hk hi (hf.left hn)
    · cases q
  case cond f a a₂ =>
    rcases hT with rfl | ⟨_, q, _⟩
    · simp only [codeOk, Bool.and_eq_true] at hc
      unfold evCond at he
      split at he
      · rename_i q hq
        have hv := opd_ok (a := ⟨t, ds⟩) hi.rel.glob hi.env f _ hq
        simp only [VR] at hv
        refine .head (st_cond hv) ?_
        refine hcode _ _ _ _ _ _ _ _ _ he ρ base w b t ds k cs _ (.inl ?_) ?_ hr hk hi hf
        · cases q <;> rfl
        · cases q
          · exact hc.2
          · exact hc.1
      · cases he
    · cases q
  case block id a =>
    rcases hT with rfl | ⟨_, q, _⟩
    · simp only [codeOk] at hc
      refine .head st_block ?_
      cases ho : rec (.code a e h d r) with
      | no => rw [ho] at he; cases he
      | ret v h1 => rw [ho] at he; cases he
      | done y e1 h1 d1 =>
        rw [ho] at he
        have hgo : ∀ {hh : Hp}, h1 = hh → hh = h' → To P ρ base h w (lone (fr b t ds (.code a :: .inBlock id :: k)) cs w) b cs t.size e1 h1 d1 (ExitR (.inBlock id :: k) y) := fun q1 q2 =>
          hcode _ _ _ _ _ _ _ _ _ ho ρ base w b t ds (.inBlock id :: k) cs _ (.inl rfl) hc hr hk hi (by rw [q1, q2]; exact hf)
        cases y with
        | normal =>
          injection he with q1 q2 q3 q4
          subst q1 q2 q3 q4
          refine (hgo rfl rfl).bind hi fun ρ₁ w₁ t₁ ds₁ k₁ hk₁ ht₁ hi₁ st₁ => ?_
          have : k₁ = .inBlock id :: k := hk₁
          subst this
          exact .head st_inBlock (.here hi₁ ht₁ rfl)
        | ret =>
          injection he with q1 q2 q3 q4
          subst q1 q2 q3 q4
          exact (hgo rfl rfl).imp fun k' h => h
        | exit j =>
          simp only [evBlock] at he
          injection he with q1 q2 q3 q4
          subst q2 q3 q4
          by_cases hj : j = id
          · subst hj
            have hb : Nat.beq j j = true := Nat.beq_refl j
            rw [hb] at q1
            simp only [cond_true] at q1
            subst q1
            refine (hgo rfl rfl).bind hi fun ρ₁ w₁ t₁ ds₁ k₁ hk₁ ht₁ hi₁ st₁ => ?_
            obtain ⟨k₀, rfl, hex⟩ := hk₁
            refine .head (st_exit (k' := k) (by rw [hex]; simp [exitTo])) (.here hi₁ ht₁ rfl)
          · have hb : Nat.beq j id = false := by rw [beq_dec]; simpa using hj
            rw [hb] at q1
            simp only [cond_false] at q1
            subst q1
            refine (hgo rfl rfl).imp fun k' ⟨k₀, z1, z2⟩ => ⟨k₀, z1, z2.trans ?_⟩
            have : (id == j) = false := by simpa using fun q : id = j => hj q.symm
            simp [exitTo, this]
    · cases q
  case loop a =>
    simp only [codeOk] at hc
    have hgo : To P ρ base h w (lone (fr b t ds (.code a :: .inLoop a :: k)) cs w) b cs t.size e' h' d' (ExitR k x) := by
      refine seq_run hle hcode he (.inr ⟨a, rfl, rfl⟩) (fun id => rfl) (by simpa [codeOk] using hc) hr hk hi hf fun y e1 h1 d1 ho hn => ?_
      exact hcode _ _ _ _ _ _ _ _ _ ho ρ base w b t ds (.inLoop a :: k) cs _ (.inl rfl) hc hr hk hi (hf.left hn)
    rcases hT with rfl | ⟨a', q, rfl⟩
    · exact .head st_loop hgo
    · injection q with q
      subst q
      exact .head st_inLoop hgo
  case scope a =>
    rcases hT with rfl | ⟨_, q, _⟩
    · simp only [codeOk] at hc
      refine .head st_scope ?_
      have hgo := hcode _ _ _ _ _ _ _ _ _ he ρ base w b t ds (.inScope a :: k) cs _ (.inl rfl) hc hr hk hi hf
      cases x with
      | normal =>
        refine hgo.bind hi fun ρ₁ w₁ t₁ ds₁ k₁ hk₁ ht₁ hi₁ st₁ => ?_
        have : k₁ = .inScope a :: k := hk₁
        subst this
        exact .head st_inScope (.here hi₁ ht₁ rfl)
      | exit id => exact hgo.imp fun k' ⟨k₀, z1, z2⟩ => ⟨k₀, z1, z2⟩
      | ret => exact hgo.imp fun k' h => h
    · cases q
  case rangeFunc f ps asg body =>
    rcases hT with rfl | ⟨_, q, _⟩
    · simp only [codeOk, Bool.and_eq_true, List.all_eq_true] at hc
      have hok : codeOk true t.size asg = true ∧ codeOk true t.size body = true ∧ ∀ q ∈ ps.toList, q < t.size := ⟨hc.1.2, hc.2, fun q hq => by rw [← blt_iff]; exact hc.1.1 q hq⟩
      unfold evRF at he
      split at he
      · rename_i fv hfv
        have hv := opd_ok (a := ⟨t, ds⟩) hi.rel.glob hi.env f _ hfv
        cases hb : b.roundOf with
        | some l =>
          rw [hb] at hr
          have : r = true := hr.symm
          subst this
          simp only [cond_true] at he
          obtain ⟨L0, hL0⟩ := hi.rnd l hb
          refine rf_run hle hcall he rfl (L := { state := .ready, pending := none, fn := b.fn, tmps := t, params := ps, assign := asg, body, defers := L0.defers }) (mk := []) ⟨rfl, rfl, rfl, rfl, rfl, rfl⟩ ?_ hv hok hi hf
          rw [hb]
          simp only [Instr.enterLoop, Sem.run_bind, Sem.run_pure, getLoop_run hL0, newObj_run, Result.andThen_ok]
        | none =>
          rw [hb] at hr
          have : r = false := hr.symm
          subst this
          simp only [cond_false] at he
          have hnn : ρ h.next = none := hf h.next (Nat.le_refl _) (Nat.le_trans (Nat.le_succ _) (evRF1_le hle he))
          obtain ⟨r1, s1⟩ := hi.rel.fresh (o := .deferred) (O := .deferred (some [])) (l := ⟨w.heap.size, 0, 0⟩) hnn rfl (by simp) ⟨rfl, by simp⟩
          have hi1 : Inv (upd ρ h.next ⟨w.heap.size, 0, 0⟩) base (h.new .deferred) { w with heap := w.heap.push (.deferred (some [])) } b t ([{ target := .collected w.heap.size, args := #[] }] ++ ds) e (.mark h.next :: d) :=
            ⟨r1, hi.env.mono s1.sub, ⟨_, ds, rfl, upd_eq _ _ _, hi.dfs.mono s1.sub⟩, fun l hl => let ⟨L, hL⟩ := hi.rnd l hl; s1.loops l L hL⟩
          have := rf_run (P := P) (k := k) (cs := cs) (f := f) (w0 := w) hle hcall he rfl (L := { state := .ready, pending := none, fn := b.fn, tmps := t, params := ps, assign := asg, body, defers := w.heap.size }) (mk := [{ target := .collected w.heap.size, args := #[] }])
            ⟨rfl, rfl, rfl, rfl, rfl, rfl⟩ (by rw [hb]; simp only [Instr.enterLoop, Sem.run_bind, Sem.run_pure, newObj_run, Result.andThen_ok]) (hv.mono s1.sub) hok hi1 (hf.right s1)
          obtain ⟨ρ2, w2, t2, ds2, k2, z1, z2, z3, z4, z5, z6, z7⟩ := this
          exact ⟨ρ2, w2, t2, ds2, k2, z1, z2, z3, z4, z5, z6, s1.trans z7⟩
      · cases he
    · cases q

end main
end Go.Ev
