/- Drawn regions do what the evaluator says. -/
import Derived.Test.YtibpgelajmoefaaGreatDoorEv32
namespace Go.Ev
variable {Λ : Laid}

section
variable {P : Program} {rec : Req → Out} {ops : Array Oper} {T : List TE} {e0 E : Env} {h0 hf : Hp} {d0 df : List AD} {base : Bs Λ} {n : Nat} {ρ0 : Rho} {w0 : World} (F : Fix Λ P rec ops T e0 h0 d0 E hf df)
  {A B : List TE} {D : Nat → Bool} {ρ : Rho} {w : World} {t : Array Value} {ds : List Deferred} {e1 : Env} {h1 : Hp} {d1 : List AD} {W1 : List Watch}
  {b : Frame} {k : List Item} {cs : List Frame}

theorem tmps_op {L : List Oper} {o : Oper} {s : Tmp} (h : Operand.tmp s ∈ o.op.operands.toList) : s ∈ tmpsOf L o := by
  unfold tmpsOf
  exact List.mem_append.2 (.inl (List.mem_filterMap.2 ⟨_, h, rfl⟩))
theorem tmps_guard {L : List Oper} {o p : Oper} {s : Tmp} {j : Nat} {want : Bool} (hg : o.guard = some (j, want)) (hp : L[j]? = some p) (hd : p.dst = some s) : s ∈ tmpsOf L o := by
  unfold tmpsOf
  refine List.mem_append.2 (.inr ?_)
  rw [hg]
  simp [hp, hd]

include F

theorem St.exec (hk : KindOk b.kind cs) (hops : ∀ o ∈ ops.toList, dstOk n o.dst = true ∧ (b.roundOf.isSome = true → quietOp o.op = true))
    (s : St P rec ops T e0 h0 E hf df base n ρ0 w0 A B D ρ w t ds e1 h1 d1 W1) (hhd : AtHead B D) {τ : TE} (hτ : τ ∈ T) (hD : D τ.p.i = false) (hdir : ∀ j, Dir τ.p.o j → D j = true) (rest : List Nat) :
    ∃ A' B' ρ' w' t' ds' e2 h2 d2 W2, Steps P (lone (fr b t ds (.inRegion ops (τ.p.i :: rest) :: k)) cs w) (lone (fr b t' ds' (.inRegion ops rest :: k)) cs w') ∧
      St P rec ops T e0 h0 E hf df base n ρ0 w0 A' B' (ins D τ.p.i) ρ' w' t' ds' e2 h2 d2 W2 := by
  have hmem := F.mem hτ
  have ho : ops[τ.p.i]? = some τ.p.o := by rw [← Array.getElem?_toList]; exact hmem.1
  have hoM : τ.p.o ∈ ops.toList := List.mem_of_getElem? hmem.1
  obtain ⟨hdst, hquiet⟩ := hops _ hoM
  have hok := F.ok hτ
  have hlook := s.env.look F s.closed hτ hD hdir
  have hwant : Region.wanted τ.p.o (yielded ops t) = τ.want :=
    want_ok (fun j want p x v hg hp hd hv => hlook x (tmps_guard hg (by rw [Array.getElem?_toList]; exact hp) hd) v hv) hok.want
  have hclass : τ ∈ A ∨ (∃ B', B = τ :: B' ∧ 1 < τ.p.c) ∨ (τ ∈ B ∧ (τ.p.c = 0 ∨ τ.p.c = 3)) := by
    have := hτ
    rw [s.split] at this
    rcases List.mem_append.1 this with h | h
    · exact .inl h
    · cases hB : B with
      | nil => rw [hB] at h; cases h
      | cons σ B' =>
        obtain ⟨hσc, hσD⟩ := hhd σ B' hB
        rw [hB] at h
        cases h with
        | head => exact .inr (.inl ⟨B', rfl, hσc⟩)
        | tail _ h =>
          obtain ⟨l1, l2, hl⟩ := List.append_of_mem h
          have hT : T = (A ++ σ :: l1) ++ τ :: l2 := by rw [s.split, hB, hl]; simp
          refine .inr (.inr ⟨.tail _ h, ?_⟩)
          rcases F.acts hT (σ := σ) (by simp) hσc with q | q | q
          · exact .inl q
          · exact .inr q
          · have := F.ancD s.closed hτ hdir q
            rw [hσD] at this; cases this
  cases hw : τ.want with
  | false =>
    rw [hw] at hwant
    have hstep := Steps.one (st_off (P := P) (b := b) (t := t) (ds := ds) (k := k) (cs := cs) (w := w) (rest := rest) ho hwant)
    obtain ⟨o1, o2, o3, o4⟩ := hok.off hw
    have hv : VR ρ τ.v undef := by rw [o1]; exact undef_ok
    rcases hclass with h | ⟨B', hB, hc⟩ | ⟨h, hc⟩
    · exact ⟨_, _, _, _, _, _, _, _, _, _, hstep, s.quiet F hτ hD hdir (.inl h) hdst hv s.rel (.refl _ _ _) s.dfs⟩
    · subst hB
      have c2 := s.run.2.1
      have c3 := s.run.2.2.1
      refine ⟨_, _, _, _, _, _, _, _, _, _, hstep, s.head F hD hdir hc hdst hv ?_ ?_ ?_⟩
      · rw [o2, c2]; exact s.rel
      · rw [o2, c2]; exact .refl _ _ _
      · rw [o3, c3]; exact s.dfs
    · refine ⟨_, _, _, _, _, _, _, _, _, _, hstep, s.quiet F hτ hD hdir (.inr ?_) hdst hv s.rel (.refl _ _ _) s.dfs⟩
      exact hc.imp id fun q => ⟨q, hw⟩
  | true =>
    rw [hw] at hwant
    have hop : ∀ {N : Nat}, (∀ g, g < N → ∃ c, ρ g = some ⟨g, 0, c⟩) → ∀ x ∈ τ.p.o.op.operands.toList, ∀ v, opd N τ.e x = some v → VR ρ v (Act.eval ⟨t, ds⟩ x) := by
      intro N hN x hx v hv
      cases x with
      | tmp y => exact hlook y (tmps_op hx) v hv
      | const c => exact opd_ok (a := ⟨t, ds⟩) hN (EnvR.lf (tmps := t)) (.const c) v hv
      | global g => exact opd_ok (a := ⟨t, ds⟩) hN (EnvR.lf (tmps := t)) (.global g) v hv
      | func f => exact opd_ok (a := ⟨t, ds⟩) hN (EnvR.lf (tmps := t)) (.func f) v hv
    have hcall : ∀ f args (h : Hp) v h', rec (.call f args h) = .ret v h' → CallOk Λ P f args h v h' := fun f args h v h' hc => F.call f args h v h' hc
    -- an operation that leaves the blocks
    have quiet1 : (τ ∈ A ∨ τ.p.c = 0 ∨ (τ.p.c = 3 ∧ τ.want = false)) → aop P τ.e h1 τ.p.o = .val τ.v h1 →
        ∃ A' B' ρ' w' t' ds' e2 h2 d2 W2, Steps P (lone (fr b t ds (.inRegion ops (τ.p.i :: rest) :: k)) cs w) (lone (fr b t' ds' (.inRegion ops rest :: k)) cs w') ∧
          St P rec ops T e0 h0 E hf df base n ρ0 w0 A' B' (ins D τ.p.i) ρ' w' t' ds' e2 h2 d2 W2 := by
      intro hwh ha
      by_cases hnx : ρ h1.next = none
      · obtain ⟨ρ', w', V, ds', z1, z2, z3, z4, z5⟩ := op_run (P := P) (b := b) (k := k) (cs := cs) (rest := rest) (t := t) (ds := ds) (e := τ.e) (d := d1) (d' := d1) (v := τ.v) (h' := h1) (rec := rec) ho hwant hquiet hk
          (by rw [ha]; rfl) (fun f a v h' hc => hcall f a _ v h' hc) (hop s.rel.glob) s.rel (fun i hi hi' => by rw [show i = h1.next by omega]; exact hnx) (Nat.le_refl _) s.dfs
        exact ⟨_, _, _, _, _, _, _, _, _, _, z1, s.quiet F hτ hD hdir hwh hdst z2 z3 z4 z5⟩
      · exfalso
        refine hnx (s.fresh h1.next (Nat.le_refl _) (s.run.le F.le).1 fun σ hσ hp => ?_)
        have := ((s.run.le F.le).2 σ hσ).1
        omega
    have hg1 : ∀ σ ∈ T, σ.h.g = h1.g := fun σ hσ => by
      have q1 := (F.ch.g F.g).2 σ hσ
      have q2 := (F.ch.g F.g).1
      have q3 := (s.run.g F.g).1
      rw [q1, ← q2, q3]
    have early3 : τ ∈ B → τ.p.c = 3 →
        ∃ A' B' ρ' w' t' ds' e2 h2 d2 W2, Steps P (lone (fr b t ds (.inRegion ops (τ.p.i :: rest) :: k)) cs w) (lone (fr b t' ds' (.inRegion ops rest :: k)) cs w') ∧
          St P rec ops T e0 h0 E hf df base n ρ0 w0 A' B' (ins D τ.p.i) ρ' w' t' ds' e2 h2 d2 W2 := by
      intro hB h3
      obtain ⟨o, hro, ho2, hd2, hpl, hop3⟩ := hok.res3 hw hmem.2.2 h3
      have ha := hop3 (h1.upto (τ.h.next + 1)) (hg1 τ hτ).symm rfl
      have hn1 := ((s.run.le F.le).2 τ hB).1
      have hn2 : τ.h.next + 2 ≤ hf.next := by
        have := ((s.run.le F.le).2 τ hB).2
        rw [ho2] at this
        exact this
      obtain ⟨ρ', w', V, ds', z1, z2, z3, z4, z5⟩ := op_run (P := P) (b := b) (k := k) (cs := cs) (rest := rest) (t := t) (ds := ds) (h := h1.upto (τ.h.next + 1)) (e := τ.e) (d := d1) (d' := d1) (v := τ.v) (h' := (h1.upto (τ.h.next + 1)).new o) (rec := rec) ho hwant hquiet hk
        (by rw [ha]; rfl) (fun f a v h' hc => hcall f a _ v h' hc) (hop s.rel.glob) (s.rel.upto (by omega)) (fun i hi hi' => by
          have hi : τ.h.next + 1 ≤ i := hi
          have hi' : i ≤ τ.h.next + 2 := hi'
          refine s.fresh i (by omega) (by omega) fun σ hσ hp => ?_
          obtain ⟨_, _, q, _⟩ := (F.ok (s.memB hσ)).res3 hp.2.1 (F.mem (s.memB hσ)).2.2 hp.2.2
          have hne : σ ≠ τ := fun e => by subst e; have := hp.1; rw [hD] at this; cases this
          rcases s.run.two F.le hB hσ hne with z | z
          · rw [ho2] at z
            have z : τ.h.next + 2 ≤ σ.h.next := z
            omega
          · rw [q] at z
            have z : σ.h.next + 2 ≤ τ.h.next := z
            omega) (Nat.le_succ _) s.dfs
      obtain ⟨l, hl⟩ := hpl ρ' V z2
      exact ⟨_, _, _, _, _, _, _, _, _, _, z1, s.early F hB hD hdir h3 hw hdst ho2 hro z2 hl z3 z4 z5⟩
    rcases hclass with h | ⟨B', hB, hc⟩ | ⟨h, hc⟩
    · have hle1 : τ.p.c ≤ 1 := by
        rcases Nat.lt_or_ge 1 τ.p.c with q | q
        · have := s.preD τ h q; rw [hD] at this; cases this
        · exact q
      refine quiet1 (.inl h) ?_
      by_cases h0 : τ.p.c = 0
      · exact hok.res0 hw hmem.2.2 h0 (hg1 τ hτ).symm
      · exact (s.todo τ h hD hw (by omega)).2
    · subst hB
      by_cases h3 : τ.p.c = 3
      · exact early3 (.head _) h3
      · have c2 := s.run.2.1
        have c3 := s.run.2.2.1
        have hon := hok.on hw
        rw [if_neg h3, c2, c3] at hon
        have hnl : τ.h2.next ≤ hf.next := ((s.run.le F.le).2 τ (.head _)).2
        have hnn : h1.next ≤ τ.h2.next := by rw [← c2]; exact hok.le F.le
        obtain ⟨ρ', w', V, ds', z1, z2, z3, z4, z5⟩ := op_run (P := P) (b := b) (k := k) (cs := cs) (rest := rest) (t := t) (ds := ds) (e := τ.e) (d := d1) (d' := τ.d2) (v := τ.v) (h' := τ.h2) (rec := rec) ho hwant hquiet hk
          hon (fun f a v h' hc => hcall f a _ v h' hc) (hop s.rel.glob) s.rel (fun i hi hi' => s.fresh i hi (Nat.le_trans hi' hnl) fun σ hσ hp => by
            cases hσ with
            | head => have := hp.1; rw [hD] at this; cases this
            | tail _ hσ =>
              have := ((s.run.2.2.2.2.2.le F.le).2 σ hσ).1
              omega) hnn s.dfs
        exact ⟨_, _, _, _, _, _, _, _, _, _, z1, s.head F hD hdir hc hdst z2 z3 z4 z5⟩
    · rcases hc with h0 | h3
      · exact quiet1 (.inr (.inl h0)) (hok.res0 hw hmem.2.2 h0 (hg1 τ hτ).symm)
      · exact early3 h h3
/-- What is left to be done, counted. -/
def left (m : Nat) (listed : Array Bool) : Nat := ((List.range m).filter fun i => !listed.getD i true).length

omit F in
theorem filter_lt {p q : Nat → Bool} : ∀ {l : List Nat}, (∀ x ∈ l, q x = true → p x = true) → (∃ x ∈ l, p x = true ∧ q x = false) → (l.filter q).length < (l.filter p).length
  | [], _, ⟨x, hx, _⟩ => by cases hx
  | y :: l, h, ⟨x, hx, hp, hq⟩ => by
    have hle : (l.filter q).length ≤ (l.filter p).length := by
      clear hx hp hq
      induction l with
      | nil => exact Nat.le_refl _
      | cons z l ih =>
        have := ih fun x hx => h x (by cases hx with | head => exact .head _ | tail _ hx => exact .tail _ (.tail _ hx))
        have hz := h z (.tail _ (.head _))
        simp only [List.filter_cons]
        cases hqz : q z with
        | true => rw [hz hqz]; simp only [if_true, List.length_cons]; omega
        | false => cases p z <;> simp only [if_true, Bool.false_eq_true, if_false, List.length_cons] <;> omega
    simp only [List.filter_cons]
    cases hx with
    | head => rw [hp, hq]; simp only [if_true, Bool.false_eq_true, if_false, List.length_cons]; omega
    | tail _ hx =>
      have ih := filter_lt (l := l) (fun z hz => h z (.tail _ hz)) ⟨x, hx, hp, hq⟩
      have hy := h y (.head _)
      cases hqy : q y with
      | true => rw [hy hqy]; simp only [if_true, List.length_cons]; omega
      | false => cases p y <;> simp only [if_true, Bool.false_eq_true, if_false, List.length_cons] <;> omega

omit F in
theorem getD_set {listed : Array Bool} {i j : Nat} (hi : i < listed.size) (d : Bool) : (listed.setIfInBounds i true).getD j d = if j = i then true else listed.getD j d := by
  by_cases h : j = i
  · subst h
    simp [Array.getD_eq_getD_getElem?, hi]
  · simp [Array.getD_eq_getD_getElem?, Array.getElem?_setIfInBounds_ne (Ne.symm h), h]

theorem St.over (s : St P rec ops T e0 h0 E hf df base n ρ0 w0 A B D ρ w t ds e1 h1 d1 W1) (hall : ∀ i, i < ops.size → D i = true) :
    t.size = n ∧ EnvR ρ E t ∧ DefR ρ df ds ∧ Rel ρ base hf w ∧ Step ρ0 h0 w0 ρ hf w := by
  obtain ⟨A', B', e2, h2, d2, W2, s, hh⟩ := s.advance F
  have hDT : ∀ τ ∈ T, D τ.p.i = true := fun τ hτ => hall _ (by rw [← Array.length_toList]; exact (List.getElem?_eq_some_iff.1 (F.mem hτ).1).1)
  cases hB : B' with
  | cons τ B'' =>
    have := (hh τ B'' hB).2
    rw [hDT τ (s.memB (by rw [hB]; exact .head _))] at this
    cases this
  | nil =>
    have hr := s.run
    rw [hB] at hr
    obtain ⟨q1, q2, q3⟩ := hr
    subst q2 q3
    refine ⟨s.size, fun x v hv => ?_, s.dfs, s.rel, s.stp⟩
    by_cases hex : ∃ τ ∈ T, τ.p.o.dst = some x
    · obtain ⟨τ, hτ, hd⟩ := hex
      exact s.env.wr τ hτ (hDT τ hτ) x hd v hv
    · rw [F.ch.env x fun τ hτ hd => hex ⟨τ, hτ, hd⟩] at hv
      exact s.env.un x (fun τ hτ _ hd => hex ⟨τ, hτ, hd⟩) v hv

theorem St.go (hk : KindOk b.kind cs) (hops : ∀ o ∈ ops.toList, dstOk n o.dst = true ∧ (b.roundOf.isSome = true → quietOp o.op = true)) :
    ∀ (fuel tp : Nat) (listed : Array Bool) {A B : List TE} {ρ : Rho} {w : World} {t : Array Value} {ds : List Deferred} {e1 : Env} {h1 : Hp} {d1 : List AD} {W1 : List Watch}, listed.size = ops.size → left ops.size listed ≤ fuel →
      St P rec ops T e0 h0 E hf df base n ρ0 w0 A B (fun i => listed.getD i false) ρ w t ds e1 h1 d1 W1 →
      ∃ ρ' w' t' ds', Steps P (lone (fr b t ds (.inRegion ops (Region.linearise.go .any ops fuel tp listed []) :: k)) cs w) (lone (fr b t' ds' k) cs w') ∧ t'.size = n ∧ EnvR ρ' E t' ∧ DefR ρ' df ds' ∧ Rel ρ' base hf w' ∧ Step ρ0 h0 w0 ρ' hf w'
  | fuel, tp, listed, A, B, ρ, w, t, ds, e1, h1, d1, W1, hsz, hleft, s => by
    have hgd : ∀ i, i < ops.size → listed.getD i true = listed.getD i false := fun i hi => by
      simp [Array.getD_eq_getD_getElem?, Array.getElem?_eq_getElem (show i < listed.size by omega)]
    have fin : (∀ i, i < ops.size → listed.getD i false = true) → ∃ ρ' w' t' ds', Steps P (lone (fr b t ds (.inRegion ops [] :: k)) cs w) (lone (fr b t' ds' k) cs w') ∧ t'.size = n ∧ EnvR ρ' E t' ∧ DefR ρ' df ds' ∧ Rel ρ' base hf w' ∧ Step ρ0 h0 w0 ρ' hf w' := fun h =>
      ⟨ρ, w, t, ds, .one st_end, s.over F h⟩
    cases fuel with
    | zero =>
      simp only [Region.linearise.go, List.reverse_nil]
      refine fin fun i hi => ?_
      have h0 : (List.range ops.size).filter (fun i => !listed.getD i true) = [] := List.eq_nil_of_length_eq_zero (Nat.le_zero.1 hleft)
      have := List.filter_eq_nil_iff.1 h0 i (List.mem_range.2 hi)
      rw [hgd i hi] at this
      simpa using this
    | succ fuel =>
      simp only [Region.linearise.go]
      change ∃ ρ' w' t' ds', Steps P (lone (fr b t ds (.inRegion ops (match (Region.ready .any ops listed)[tp % (Region.ready .any ops listed).length]? with
        | some i => Region.linearise.go .any ops fuel (tp / (Region.ready .any ops listed).length) (listed.setIfInBounds i true) [i]
        | none => [].reverse) :: k)) cs w) (lone (fr b t' ds' k) cs w') ∧ _
      cases hi : (Region.ready .any ops listed)[tp % (Region.ready .any ops listed).length]? with
      | none =>
        simp only [List.reverse_nil]
        have hnil : Region.ready .any ops listed = [] := by
          cases hr : Region.ready .any ops listed with
          | nil => rfl
          | cons x xs =>
            rw [hr] at hi
            have hlt : tp % (x :: xs).length < (x :: xs).length := Nat.mod_lt _ (by simp)
            simp at hi
            simp at hlt
            omega
        refine fin fun i hi => ?_
        induction i using Nat.strongRecOn with
        | ind i ih =>
          have := List.filter_eq_nil_iff.1 hnil i (List.mem_range.2 hi)
          cases hl : listed.getD i false with
          | true => rfl
          | false =>
            exfalso
            apply this
            rw [hgd i hi, hl]
            simp only [Bool.not_false, Bool.true_and]
            rw [Array.getElem?_eq_getElem hi]
            simp only [Option.map_some, Option.getD_some]
            rw [← Array.all_toList, List.all_eq_true]
            intro e he
            rw [Bool.or_eq_true]
            cases hb : Region.binds .any e with
            | false => exact .inl rfl
            | true =>
              right
              have hdn := F.plan.down
              unfold downE at hdn
              rw [List.all_eq_true] at hdn
              have h1 := hdn i (List.mem_range.2 (by rw [Array.length_toList]; exact hi))
              rw [Array.getElem?_toList, Array.getElem?_eq_getElem hi] at h1
              simp only [List.all_eq_true] at h1
              have h2 := h1 e he
              rw [hb] at h2
              simp only [Bool.not_true, Bool.false_or, blt_iff] at h2
              exact ih e.on h2 (by omega)
      | some i =>
        simp only []
        rw [linearise_go_acc, List.reverse_singleton, List.singleton_append]
        have hm : i ∈ Region.ready .any ops listed := List.mem_of_getElem? hi
        obtain ⟨hir, hrd⟩ := List.mem_filter.1 hm
        have hil := List.mem_range.1 hir
        rw [hgd i hil, Bool.and_eq_true, Array.getElem?_eq_getElem hil] at hrd
        simp only [Option.map_some, Option.getD_some, Bool.not_eq_true'] at hrd
        obtain ⟨hlf, hall⟩ := hrd
        rw [← Array.all_toList, List.all_eq_true] at hall
        obtain ⟨τ, hτ, rfl⟩ := F.cover hil
        have hoτ : ops[τ.p.i] = τ.p.o := by
          have := (F.mem hτ).1
          rw [Array.getElem?_toList, Array.getElem?_eq_getElem hil] at this
          exact Option.some.inj this
        obtain ⟨A1, B1, e2, h2, d2, W2, s1, hh⟩ := s.advance F
        obtain ⟨A2, B2, ρ2, w2, t2, ds2, e3, h3, d3, W3, hst, s2⟩ := s1.exec F (k := k) hk hops hh hτ hlf (fun j ⟨e, he, hb, hj⟩ => by
          subst hj
          rw [← hoτ] at he
          have := hall e he
          rw [hb] at this
          simpa using this) (Region.linearise.go .any ops fuel (tp / (Region.ready .any ops listed).length) (listed.setIfInBounds τ.p.i true) [])
        have hDe : (fun i => (listed.setIfInBounds τ.p.i true).getD i false) = ins (fun i => listed.getD i false) τ.p.i := by
          funext j
          rw [getD_set (by omega)]
          unfold ins
          by_cases h : j = τ.p.i <;> simp [h]
        rw [← hDe] at s2
        have hlt : left ops.size (listed.setIfInBounds τ.p.i true) < left ops.size listed := by
          refine filter_lt (fun x hx h => ?_) ⟨τ.p.i, hir, ?_, ?_⟩
          · rw [getD_set (by omega)] at h
            by_cases q : x = τ.p.i
            · simp [q] at h
            · simpa [q] using h
          · rw [hgd _ hil, hlf]; rfl
          · rw [getD_set (by omega)]; simp
        obtain ⟨ρ', w', t', ds', z1, z2⟩ := St.go hk hops fuel (tp / (Region.ready .any ops listed).length) (listed.setIfInBounds τ.p.i true) (by simpa using hsz) (by omega) s2
        exact ⟨ρ', w', t', ds', hst.trans z1, z2⟩

end

/-- Drawn regions do what the evaluator says. -/
theorem draw_ok {P : Program} (hm : P.follows .mixedOrders = true) : DrawOk Λ P := by
  intro rec hg hle hcall b k cs hk id ops n l hpl hops ρ base h w t ds e d x e' h' d' ht hi hfr he
  obtain ⟨hx, T, hT, hch⟩ := evD_trace he
  refine ⟨hx, ?_⟩
  have F : Fix Λ P rec ops T e h d e' h' d' := ⟨by rw [hT]; exact planOf_ok hpl, hch, hle, hg, hcall⟩
  refine .head st_draw ?_
  rw [hm]
  simp only [Region.schedule, Bool.true_or, if_true, Region.linearise]
  have s0 : St P rec ops T e h e' h' d' base n ρ w [] T (fun i => (Array.replicate ops.size false).getD i false) ρ { w with drawn := w.drawn + 1 } t ds e h d [] := {
    split := rfl
    run := hch
    closed := fun i o _ hD => by
      simp [Array.getD_eq_getD_getElem?, Array.getElem?_replicate] at hD
      split at hD <;> simp at hD
    preD := fun τ hτ => by cases hτ
    sufD := fun τ hτ hD => by
      simp [Array.getD_eq_getD_getElem?, Array.getElem?_replicate] at hD
      split at hD <;> simp at hD
    rel := hi.rel.drew _
    dfs := hi.dfs
    size := ht
    env := ⟨fun τ _ hD => by
      simp [Array.getD_eq_getD_getElem?, Array.getElem?_replicate] at hD
      split at hD <;> simp at hD, fun s _ v hv => hi.env s v hv⟩
    todo := fun τ hτ => by cases hτ
    pend := fun τ _ hp => by
      have hD := hp.1
      simp [Array.getD_eq_getD_getElem?, Array.getElem?_replicate] at hD
      split at hD <;> simp at hD
    pdis := fun τ _ σ _ hp => by
      have hD := hp.1
      simp [Array.getD_eq_getD_getElem?, Array.getElem?_replicate] at hD
      split at hD <;> simp at hD
    fresh := fun i hi hi' _ => hfr i hi hi'
    base0 := Nat.le_refl _
    stp := (Step.drew (w := w) (w.drawn + 1)).raise (hch.le hle).1 }
  obtain ⟨ρ', w', t', ds', z1, z2, z3, z4, z5, z6⟩ := s0.go F (k := k) hk hops ops.size ((Question.order b.fn id).cut (w.tape w.drawn (.order b.fn id))) (Array.replicate ops.size false) (by simp) (by
    unfold left
    have := List.length_filter_le (fun i => !(Array.replicate ops.size false).getD i true) (List.range ops.size)
    rw [List.length_range] at this
    exact this)
  exact ⟨ρ', w', t', ds', k, z1, rfl, z2, z3, z4, z5, z6⟩

end Go.Ev
