/- The counter, run by run. -/
import Derived.Test.YtibpgelajmoefaaGreatDoorEv19
namespace Go.Ev
variable {Λ : Laid}

structure EvLe (rec : Req → Out) : Prop where
  code : ∀ c e h d r x e' h' d', rec (.code c e h d r) = .done x e' h' d' → h.next ≤ h'.next
  call : ∀ f a h v h', rec (.call f a h) = .ret v h' → h.next ≤ h'.next

section le
variable {P : Program} {rec : Req → Out}

theorem o3_le (hr : EvLe rec) {h h' : Hp} {d d' : List AD} {R : OR} {v : AV} (hR : OR.le h R) (he : o3 rec h d R = .is v h' d') : h.next ≤ h'.next := by
  cases R with
  | val u h1 => simp only [o3, O3.is.injEq] at he; obtain ⟨_, rfl, _⟩ := he; exact hR
  | skip h1 => simp only [o3, O3.is.injEq] at he; obtain ⟨_, rfl, _⟩ := he; exact hR
  | call f a =>
    simp only [o3] at he
    cases hc : rec (.call f a h) with
    | ret u h1 => rw [hc] at he; simp only [o3Call, O3.is.injEq] at he; obtain ⟨_, rfl, _⟩ := he; exact hr.call _ _ _ _ _ hc
    | done x e h d => rw [hc] at he; cases he
    | no => rw [hc] at he; cases he
  | dfr f a =>
    simp only [o3] at he
    cases hf : isFunc f with
    | false => rw [hf] at he; cases he
    | true => rw [hf] at he; simp only [cond_true, O3.is.injEq] at he; obtain ⟨_, rfl, _⟩ := he; exact Nat.le_refl _
  | no => cases he

/-- One more operation. -/
theorem evOps_cons {ops : List Oper} {o : Oper} {l : List Oper} {e : Env} {h : Hp} {d : List AD} {x : Ex} {e' : Env} {h' : Hp} {d' : List AD} (he : evOps P rec ops (o :: l) e h d = .done x e' h' d') :
    (wantA ops e o = some false ∧ evOps P rec ops l (Env.put e o.dst (.tup [])) h d = .done x e' h' d') ∨
    (wantA ops e o = some true ∧ ∃ v h1 d1, o3 rec h d (aop P e h o) = .is v h1 d1 ∧ evOps P rec ops l (Env.put e o.dst v) h1 d1 = .done x e' h' d') := by
  change evOp P rec e h d o (evOps P rec ops l) (wantA ops e o) = _ at he
  cases hw : wantA ops e o with
  | none => rw [hw] at he; cases he
  | some b =>
    rw [hw] at he
    cases b with
    | false => exact .inl ⟨rfl, he⟩
    | true =>
      simp only [evOp] at he
      cases ho : o3 rec h d (aop P e h o) with
      | no => rw [ho] at he; cases he
      | is v h1 d1 => rw [ho] at he; exact .inr ⟨rfl, v, h1, d1, rfl, he⟩

theorem evOps_le (hr : EvLe rec) {ops : List Oper} : ∀ {l : List Oper} {e : Env} {h : Hp} {d : List AD} {x : Ex} {e' : Env} {h' : Hp} {d' : List AD}, evOps P rec ops l e h d = .done x e' h' d' → h.next ≤ h'.next
  | [], e, h, d, x, e', h', d', he => by
    change Out.done .normal e h d = _ at he
    injection he with _ _ h3 _
    rw [h3]; exact Nat.le_refl _
  | o :: l, e, h, d, x, e', h', d', he => by
    rcases evOps_cons he with ⟨_, h2⟩ | ⟨_, v, h1, d1, h3, h4⟩
    · exact evOps_le hr h2
    · exact Nat.le_trans (o3_le hr aop_le h3) (evOps_le hr h4)

/-- One more operation of a drawn region. -/
theorem evD_cons {ops : List Oper} {p : PE} {l : List PE} {e : Env} {h : Hp} {d : List AD} {W : List Watch} {x : Ex} {e' : Env} {h' : Hp} {d' : List AD} (he : evD P rec ops (p :: l) e h d W = .done x e' h' d') :
    (wantA ops e p.o = some false ∧ evD P rec ops l (Env.put e p.o.dst (.tup [])) h d W = .done x e' h' d') ∨
    (wantA ops e p.o = some true ∧ ∃ v h1 d1, (if p.c = 3 then o3 rec h.bump d (aop P e h.bump p.o) else o3 rec h d (aop P e h p.o)) = .is v h1 d1 ∧
      ((p.c = 0 ∧ evD P rec ops l (Env.put e p.o.dst v) h1 d1 W = .done x e' h' d') ∨
       (p.c = 1 ∧ evD P rec ops l (Env.put e p.o.dst v) h1 d1 ((p.i, e, p.o, v) :: W) = .done x e' h' d') ∨
       (1 < p.c ∧ ∃ W', watchOk P h1 p.b W = some W' ∧ evD P rec ops l (Env.put e p.o.dst v) h1 d1 W' = .done x e' h' d'))) := by
  change evDOp P rec e h d W p (evD P rec ops l) (wantA ops e p.o) = _ at he
  cases hw : wantA ops e p.o with
  | none => rw [hw] at he; cases he
  | some b =>
    rw [hw] at he
    cases b with
    | false => exact .inl ⟨rfl, he⟩
    | true =>
      simp only [evDOp] at he
      have h3 : (bif Nat.beq p.c 3 then o3 rec h.bump d (aop P e h.bump p.o) else o3 rec h d (aop P e h p.o)) = (if p.c = 3 then o3 rec h.bump d (aop P e h.bump p.o) else o3 rec h d (aop P e h p.o)) := by
        by_cases hq : p.c = 3
        · rw [if_pos hq, hq]; rfl
        · rw [if_neg hq]
          have : Nat.beq p.c 3 = false := by rw [beq_dec]; simpa using hq
          rw [this]; rfl
      rw [h3] at he
      refine .inr ⟨rfl, ?_⟩
      cases ho : (if p.c = 3 then o3 rec h.bump d (aop P e h.bump p.o) else o3 rec h d (aop P e h p.o)) with
      | no => rw [ho] at he; cases he
      | is v h1 d1 =>
        rw [ho] at he
        refine ⟨v, h1, d1, rfl, ?_⟩
        simp only [evDK] at he
        by_cases h0 : p.c = 0
        · rw [h0] at he
          exact .inl ⟨h0, he⟩
        · have hb0 : Nat.beq p.c 0 = false := by rw [beq_dec]; simpa using h0
          rw [hb0] at he
          simp only [cond_false] at he
          by_cases h1' : p.c = 1
          · rw [h1'] at he
            exact .inr (.inl ⟨h1', he⟩)
          · have hb1 : Nat.beq p.c 1 = false := by rw [beq_dec]; simpa using h1'
            rw [hb1] at he
            simp only [cond_false] at he
            refine .inr (.inr ⟨by omega, ?_⟩)
            cases hwo : watchOk P h1 p.b W with
            | none => rw [hwo] at he; cases he
            | some W' => rw [hwo] at he; exact ⟨W', rfl, he⟩

theorem evD_le (hr : EvLe rec) {ops : List Oper} : ∀ {l : List PE} {e : Env} {h : Hp} {d : List AD} {W : List Watch} {x : Ex} {e' : Env} {h' : Hp} {d' : List AD}, evD P rec ops l e h d W = .done x e' h' d' → h.next ≤ h'.next
  | [], e, h, d, W, x, e', h', d', he => by
    change Out.done .normal e h d = _ at he
    injection he with _ _ h3 _
    rw [h3]; exact Nat.le_refl _
  | p :: l, e, h, d, W, x, e', h', d', he => by
    rcases evD_cons he with ⟨_, h2⟩ | ⟨_, v, h1, d1, h3, h4⟩
    · exact evD_le hr h2
    · have hle : h.next ≤ h1.next := by
        split at h3
        · exact Nat.le_trans (Nat.le_succ _) (o3_le hr aop_le h3)
        · exact o3_le hr aop_le h3
      rcases h4 with ⟨_, h4⟩ | ⟨_, h4⟩ | ⟨_, W', _, h4⟩
      · exact Nat.le_trans hle (evD_le hr h4)
      · exact Nat.le_trans hle (evD_le hr h4)
      · exact Nat.le_trans hle (evD_le hr h4)

theorem runD_le (hr : EvLe rec) : ∀ {d : List AD} {h h' : Hp}, runD rec d h = some h' → h.next ≤ h'.next
  | [], h, h', he => by simp only [runD, Option.some.injEq] at he; rw [he]; exact Nat.le_refl _
  | .mark b :: d, h, h', he => by
    simp only [runD] at he
    split at he
    · exact runD_le hr (h := h.set b .dead) he
    · cases he
  | .call f args :: d, h, h', he => by
    simp only [runD] at he
    cases hf : isFunc f with
    | false => rw [hf] at he; cases he
    | true =>
      rw [hf] at he
      simp only [cond_true] at he
      split at he
      · rename_i v h1 hc
        exact Nat.le_trans (hr.call _ _ _ _ _ hc) (runD_le hr he)
      · cases he

/-- What a run of a function over a loop's rounds says. -/
theorem evRF_inv {e : Env} {h : Hp} {d : List AD} {ps : List Tmp} {asg body : Code} {fv : AV} {x : Ex} {e' : Env} {h' : Hp} {d' : List AD} (he : evRF1 rec e h d ps asg body fv = .done x e' h' d') :
    ∃ v h1 st pend en ps' asg' body', rec (.call fv [.fn (.yield h.next) [] []] (h.new (.loop 0 .normal e ps asg body))) = .ret v h1 ∧ h1.get h.next = some (.loop st pend en ps' asg' body') ∧ st ≠ 1 ∧
      x = pend ∧ e' = e ∧ d' = d ∧ h' = h1.set h.next (.loop 3 pend en ps' asg' body') := by
  unfold evRF1 at he
  cases hc : rec (.call fv [.fn (.yield h.next) [] []] (h.new (.loop 0 .normal e ps asg body))) with
  | done => rw [hc] at he; cases he
  | no => rw [hc] at he; cases he
  | ret v h1 =>
    rw [hc] at he
    simp only [evRF2] at he
    unfold evRF3 at he
    split at he
    · rename_i st pend en ps' asg' body' hg
      cases hb : Nat.beq st 1 with
      | true => rw [hb] at he; cases he
      | false =>
        rw [hb] at he
        simp only [cond_false] at he
        injection he with e1 e2 e3 e4
        exact ⟨v, h1, st, pend, en, ps', asg', body', rfl, hg, (fun q => by subst q; cases hb), e1.symm, e2.symm, e4.symm, e3.symm⟩
    · cases he

theorem evRF1_le (hr : EvLe rec) {e : Env} {h : Hp} {d : List AD} {ps : List Tmp} {asg body : Code} {fv : AV} {x : Ex} {e' : Env} {h' : Hp} {d' : List AD} (he : evRF1 rec e h d ps asg body fv = .done x e' h' d') : h.next ≤ h'.next := by
  obtain ⟨v, h1, st, pend, en, ps', asg', body', hc, _, _, _, _, _, rfl⟩ := evRF_inv he
  exact Nat.le_trans (Nat.le_succ _) (hr.call _ _ _ _ _ hc)

theorem evCode_le (hr : EvLe rec) {c : Code} {e : Env} {h : Hp} {d : List AD} {r : Bool} {x : Ex} {e' : Env} {h' : Hp} {d' : List AD} (he : evCode P rec e h d r c = .done x e' h' d') : h.next ≤ h'.next := by
  have base : ∀ {y : Ex}, Out.done y e h d = .done x e' h' d' → h.next ≤ h'.next := fun q => by injection q with _ _ q _; rw [q]; exact Nat.le_refl _
  have seq : ∀ {b : Code} {o : Out}, (∀ y e1 h1 d1, o = .done y e1 h1 d1 → h.next ≤ h1.next) → evSeq rec b r o = .done x e' h' d' → h.next ≤ h'.next := by
    intro b o ho hs
    cases o with
    | no => cases hs
    | ret v h1 => cases hs
    | done y e1 h1 d1 =>
      cases y with
      | normal => exact Nat.le_trans (ho _ _ _ _ rfl) (hr.code _ _ _ _ _ _ _ _ _ hs)
      | exit id => injection hs with _ _ q _; rw [← q]; exact ho _ _ _ _ rfl
      | ret => injection hs with _ _ q _; rw [← q]; exact ho _ _ _ _ rfl
  cases c <;> simp only [evCode] at he <;> try first | exact base he | (cases he; done)
  case region id ops draw =>
    cases draw with
    | false => exact evOps_le hr he
    | true =>
      simp only [cond_true] at he
      cases hp : planOf ops.toList with
      | none => rw [hp] at he; cases he
      | some l => rw [hp] at he; exact evD_le hr he
  case seq a b => exact seq (fun y e1 h1 d1 q => hr.code _ _ _ _ _ _ _ _ _ q) he
  case cond c a b =>
    unfold evCond at he
    split at he
    · exact hr.code _ _ _ _ _ _ _ _ _ he
    · cases he
  case block id a =>
    unfold evBlock at he
    split at he
    · rename_i j e1 h1 d1 hc
      injection he with _ _ q _
      rw [← q]; exact hr.code _ _ _ _ _ _ _ _ _ hc
    · exact hr.code _ _ _ _ _ _ _ _ _ he
  case loop a => exact seq (fun y e1 h1 d1 q => hr.code _ _ _ _ _ _ _ _ _ q) he
  case scope a => exact hr.code _ _ _ _ _ _ _ _ _ he
  case rangeFunc f ps asg body =>
    unfold evRF at he
    split at he
    · cases r with
      | true => exact evRF1_le hr he
      | false => exact Nat.le_trans (Nat.le_succ _) (evRF1_le hr (h := h.new .deferred) he)
    · cases he

theorem externA_le {fn : Func} {h h' : Hp} {args : List AV} {v : AV} (he : externA P fn h args = .val v h') : h.next ≤ h'.next := by
  unfold externA at he
  cases hq : fn.name == "internal/abi.NoEscape" with
  | true =>
    rw [hq] at he
    simp only [cond_true] at he
    split at he
    · injection he with _ q; rw [q]; exact Nat.le_refl _
    · cases he
  | false =>
    rw [hq] at he
    simp only [cond_false] at he
    cases hq : fn.name == "internal/bytealg.IndexByteString" with
    | true =>
      rw [hq] at he
      simp only [cond_true] at he
      split at he
      · rename_i c
        cases hc : Nat.blt c 256 with
        | false => rw [hc] at he; cases he
        | true => rw [hc] at he; simp only [cond_true] at he; injection he with _ q; rw [q]; exact Nat.le_refl _
      · cases he
    | false =>
      rw [hq] at he
      simp only [cond_false] at he
      cases hq : fn.name == "internal/bytealg.MakeNoZero" with
      | false => rw [hq] at he; cases he
      | true =>
        rw [hq] at he
        simp only [cond_true] at he
        unfold extMake at he
        split at he
        · split at he
          · split at he
            · rename_i n _ _ _ _ _ _ _
              cases hn : Nat.ble _ 1000000000 with
              | false => rw [hn] at he; cases he
              | true => rw [hn] at he; simp only [cond_true] at he; injection he with _ q; rw [← q]; exact Nat.le_succ _
            · cases he
          · cases he
        · cases he

theorem evRes_inv {h h' : Hp} {o : Option (List AV)} {v : AV} (he : evRes h o = .ret v h') : h' = h ∧ ∃ vs, o = some vs ∧ ((vs = [v]) ∨ (vs.length ≠ 1 ∧ v = .tup vs)) := by
  unfold evRes at he
  split at he
  · injection he with e1 e2; subst e1 e2; exact ⟨rfl, _, rfl, .inl rfl⟩
  · rename_i vs hn
    injection he with e1 e2; subst e1 e2
    refine ⟨rfl, vs, rfl, .inr ⟨fun hl => ?_, rfl⟩⟩
    match vs, hl with
    | [x], _ => exact hn x rfl
  · cases he

theorem evEnd_inv {fn : Func} {o : Out} {v : AV} {h' : Hp} (he : evEnd P rec fn o = .ret v h') : ∃ x e h d, o = .done x e h d ∧ (x = .normal ∨ x = .ret) ∧ ∃ h1 vs, runD rec d h = some h1 ∧ h' = h1 ∧ resA P e h1 fn.results.toList = some vs ∧ (vs = [v] ∨ (vs.length ≠ 1 ∧ v = .tup vs)) := by
  unfold evEnd at he
  split at he
  · cases he
  · rename_i x e h d hx
    unfold evEnd2 at he
    split at he
    · rename_i h1 hrd
      obtain ⟨rfl, vs, h2, h3⟩ := evRes_inv he
      refine ⟨x, e, h, d, rfl, ?_, _, vs, hrd, rfl, h2, h3⟩
      cases x with
      | normal => exact .inl rfl
      | ret => exact .inr rfl
      | exit id => exact absurd rfl (hx id)
    · cases he
  · cases he

theorem evY_inv {l : Nat} {args : List AV} {h h' : Hp} {v : AV} (he : evY rec l args h (h.get l) = .ret v h') :
    ∃ st pend en ps asg body e1, h.get l = some (.loop st pend en ps asg body) ∧ putAll ps args en = some e1 ∧
    ∃ e2 h2, rec (.code asg e1 h [] true) = .done .normal e2 h2 [] ∧ ∃ pend2 en2 ps2 asg2 bd2, h2.get l = some (.loop 0 pend2 en2 ps2 asg2 bd2) ∧
    ∃ x e3 h3, rec (.code body e2 (h2.set l (.loop 1 pend2 en2 ps2 asg2 bd2)) [] true) = .done x e3 h3 [] ∧ ∃ st4 pend4 en4 ps4 asg4 bd4, h3.get l = some (.loop st4 pend4 en4 ps4 asg4 bd4) ∧
    ((x = .normal ∧ v = .bool true ∧ h' = h3.set l (.loop 0 .normal en4 ps4 asg4 bd4)) ∨ (x ≠ .normal ∧ v = .bool false ∧ h' = h3.set l (.loop 2 x en4 ps4 asg4 bd4))) := by
  unfold evY at he
  split at he
  · rename_i st pend en ps asg body hg
    unfold evY1 at he
    split at he
    · rename_i e1 hp
      refine ⟨st, pend, en, ps, asg, body, e1, hg, hp, ?_⟩
      unfold evY2 at he
      split at he
      · rename_i e2 h2 hc
        refine ⟨e2, h2, hc, ?_⟩
        unfold evY3 at he
        split at he
        · rename_i pend2 en2 ps2 asg2 bd2 hg2
          refine ⟨pend2, en2, ps2, asg2, bd2, hg2, ?_⟩
          unfold evY4 at he
          split at he
          · rename_i x e3 h3 hc2
            refine ⟨x, e3, h3, hc2, ?_⟩
            unfold evY5 at he
            split at he
            · rename_i st4 pend4 en4 ps4 asg4 bd4 hg4
              refine ⟨st4, pend4, en4, ps4, asg4, bd4, hg4, ?_⟩
              split at he
              · injection he with q1 q2; exact .inl ⟨rfl, q1.symm, q2.symm⟩
              · rename_i hx
                injection he with q1 q2; exact .inr ⟨fun q => hx q, q1.symm, q2.symm⟩
            · cases he
          · cases he
        · cases he
      · cases he
    · cases he
  · cases he

theorem evCall_le (hr : EvLe rec) {f : AV} {args : List AV} {h h' : Hp} {v : AV} (he : evCall P rec args h f = .ret v h') : h.next ≤ h'.next := by
  unfold evCall at he
  split at he
  · unfold evFunc at he
    split at he
    · rename_i fn _
      unfold evFunc2 at he
      split at he
      · rename_i c _
        obtain ⟨x, e, h1, d, hc, _, h2, vs, hrd, rfl, _⟩ := evEnd_inv he
        exact Nat.le_trans (hr.code _ _ _ _ _ _ _ _ _ hc) (runD_le hr hrd)
      · unfold evExt at he
        split at he
        · rename_i hx
          injection he with q1 q2; subst q1 q2
          exact externA_le hx
        · cases he
    · cases he
  · obtain ⟨st, pend, en, ps, asg, body, e1, hg, hp, e2, h2, hc, pend2, en2, ps2, asg2, bd2, hg2, x, e3, h3, hc2, st4, pend4, en4, ps4, asg4, bd4, hg4, hx⟩ := evY_inv he
    have q1 := hr.code _ _ _ _ _ _ _ _ _ hc
    have q2 := hr.code _ _ _ _ _ _ _ _ _ hc2
    have q3 : h'.next = h3.next := by rcases hx with ⟨_, _, rfl⟩ | ⟨_, _, rfl⟩ <;> rfl
    rw [q3]
    exact Nat.le_trans q1 q2
  · cases he

theorem ev_le : ∀ n, EvLe (ev P n)
  | 0 => ⟨(fun c e h d r x e' h' d' he => by cases he), (fun f a h v h' he => by cases he)⟩
  | n + 1 => ⟨(fun c e h d r x e' h' d' he => evCode_le (ev_le n) he), (fun f a h v h' he => evCall_le (ev_le n) he)⟩

end le
end Go.Ev
