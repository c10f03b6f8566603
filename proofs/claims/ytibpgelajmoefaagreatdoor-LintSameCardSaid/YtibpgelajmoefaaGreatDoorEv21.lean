/- Rows of operations, results, what is deferred: as the frames run them. -/
import Derived.Test.YtibpgelajmoefaaGreatDoorEv20
namespace Go.Ev
variable {Λ : Laid}

section run
variable {P : Program} {base : Bs Λ}

theorem VR.bool_of {ρ : Rho} {v : AV} {b : Bool} (r : VR ρ v (.bool b)) : v = .bool b := by
  cases v <;> simp only [VR] at r
  case bool c => injection r with r; rw [r]
  all_goals first | (cases r; done) | (obtain ⟨_, h, _⟩ := r; cases h; done) | (obtain ⟨_, _, h⟩ := r; cases h; done) | (obtain ⟨_, _, _, h, _⟩ := r; cases h; done) | (obtain ⟨_, _, _, _, h, _⟩ := r; cases h; done)

/-- The guard, from the slots it looks at. -/
theorem want_ok {ρ : Rho} {ops : Array Oper} {e : Env} {t : Array Value} {o : Oper} {q : Bool}
    (he : ∀ j want p s v, o.guard = some (j, want) → ops[j]? = some p → p.dst = some s → Env.get e s = some v → VR ρ v (t.getD s undef))
    (h : wantA ops.toList e o = some q) : Region.wanted o (yielded ops t) = q := by
  unfold wantA at h
  unfold Region.wanted
  cases hg : o.guard with
  | none => rw [hg] at h; simpa using h
  | some jw =>
    obtain ⟨j, want⟩ := jw
    rw [hg] at h
    simp only at h ⊢
    cases hp : ops[j]? with
    | none => rw [Array.getElem?_toList, hp] at h; cases h
    | some p =>
      rw [Array.getElem?_toList, hp] at h
      simp only at h
      cases hd : p.dst with
      | none => rw [hd] at h; cases h
      | some s =>
        rw [hd] at h
        simp only at h
        cases hv : Env.get e s with
        | none => rw [hv] at h; cases h
        | some v =>
          rw [hv] at h
          have hr := he j want p s v hg hp hd hv
          have hy : ∀ b, yielded ops t j = some b ↔ t.getD s undef = .bool b := by
            intro b
            simp only [yielded, hp, hd, Option.bind_some, Array.getD_eq_getD_getElem?]
            cases hts : t[s]? with
            | none => simp [undef]
            | some X =>
              simp only [Option.getD_some]
              cases X <;> simp
          cases v with
          | bool b =>
            simp only [Option.some.injEq] at h
            simp only [VR] at hr
            rw [(hy b).2 hr]
            rw [← h]
            cases b <;> cases want <;> rfl
          | _ =>
            simp only [Option.some.injEq] at h
            subst h
            have : yielded ops t j ≠ some want := fun q => by
              have := (hy want).1 q
              rw [this] at hr
              have := hr.bool_of
              cases this
            simpa using this

theorem undef_ok {ρ : Rho} : VR ρ (.tup []) undef := by simp only [VR]; exact ⟨_, rfl, .nil⟩

/-- What holds when a frame works. -/
structure Inv (ρ : Rho) (base : Bs Λ) (h : Hp) (w : World) (b : Frame) (t : Array Value) (ds : List Deferred) (e : Env) (d : List AD) : Prop where
  rel : Rel ρ base h w
  env : EnvR ρ e t
  dfs : DefR ρ d ds
  rnd : ∀ l, b.roundOf = some l → ∃ L, w.heap[l]? = some (.loop L)

/-- A run of a frame to there. -/
def To (P : Program) (ρ : Rho) (base : Bs Λ) (h : Hp) (w : World) (m : Machine) (b : Frame) (cs : List Frame) (n : Nat) (e' : Env) (h' : Hp) (d' : List AD) (K : List Item → Prop) : Prop :=
  ∃ ρ' w' t' ds' k', Steps P m (lone (fr b t' ds' k') cs w') ∧ K k' ∧ t'.size = n ∧ EnvR ρ' e' t' ∧ DefR ρ' d' ds' ∧ Rel ρ' base h' w' ∧ Step ρ h w ρ' h' w'

theorem To.head {ρ : Rho} {h : Hp} {w : World} {m m₁ : Machine} {b : Frame} {cs : List Frame} {n : Nat} {e' : Env} {h' : Hp} {d' : List AD} {K : List Item → Prop} (hs : step P m = .next m₁) (t : To P ρ base h w m₁ b cs n e' h' d' K) : To P ρ base h w m b cs n e' h' d' K := by
  obtain ⟨ρ', w', t', ds', k', s, r⟩ := t
  exact ⟨ρ', w', t', ds', k', .head hs s, r⟩

theorem Fresh.left {ρ : Rho} {a b c : Nat} (h : Fresh ρ a c) (hbc : b ≤ c) : Fresh ρ a b := fun i h1 h2 => h i h1 (Nat.le_trans h2 hbc)
theorem Fresh.right {ρ ρ' : Rho} {h h' : Hp} {w w' : World} {c : Nat} (f : Fresh ρ h.next c) (s : Step ρ h w ρ' h' w') : Fresh ρ' h'.next c := fun i h1 h2 => by
  rw [s.keep i (.inr h1)]
  exact f i (Nat.le_trans s.next h1) h2

theorem evOps_run {rec : Req → Out} (hle : EvLe rec) (hrec : ∀ f args h v h', rec (.call f args h) = .ret v h' → CallOk Λ P f args h v h') {b : Frame} {k : List Item} {cs : List Frame} (hk : KindOk b.kind cs) {ops : Array Oper} {n : Nat} :
    ∀ {l : List Oper} {i : Nat} {ρ : Rho} {h : Hp} {w : World} {t : Array Value} {ds : List Deferred} {e : Env} {d : List AD} {x : Ex} {e' : Env} {h' : Hp} {d' : List AD},
      (∀ j, ops[i + j]? = l[j]?) → (∀ o ∈ l, dstOk n o.dst = true ∧ (b.roundOf.isSome = true → quietOp o.op = true)) → t.size = n →
      Inv ρ base h w b t ds e d → Fresh ρ h.next h'.next → evOps P rec ops.toList l e h d = .done x e' h' d' →
      x = .normal ∧ To P ρ base h w (lone (fr b t ds (.inRegion ops (List.range' i l.length) :: k)) cs w) b cs n e' h' d' (· = k)
  | [], i, ρ, h, w, t, ds, e, d, x, e', h', d', _, _, ht, hi, _, he => by
    change Out.done .normal e h d = _ at he
    injection he with h1 h2 h3 h4
    subst h1 h2 h3 h4
    exact ⟨rfl, ρ, w, t, ds, k, .one st_end, rfl, ht, hi.env, hi.dfs, hi.rel, .refl _ _ _⟩
  | o :: l, i, ρ, h, w, t, ds, e, d, x, e', h', d', hix, hok, ht, hi, hf, he => by
    have ho : ops[i]? = some o := by have := hix 0; simpa using this
    have hix' : ∀ j, ops[i + 1 + j]? = l[j]? := fun j => by have := hix (j + 1); rw [show i + 1 + j = i + (j + 1) by omega, this]; simp
    obtain ⟨hdo, hqo⟩ := hok o (.head _)
    have hok' : ∀ o ∈ l, dstOk n o.dst = true ∧ (b.roundOf.isSome = true → quietOp o.op = true) := fun o h => hok o (.tail _ h)
    rcases evOps_cons he with ⟨hw, h2⟩ | ⟨hw, v, h1, d1, h3, h4⟩
    · have hw' := want_ok (t := t) (fun j want p s v _ _ _ hv => hi.env s v hv) hw
      have hi' : Inv ρ base h w b (putT t o.dst undef) ds (Env.put e o.dst (.tup [])) d := ⟨hi.rel, hi.env.put (by rw [ht]; exact hdo) undef_ok, hi.dfs, hi.rnd⟩
      obtain ⟨q1, q2⟩ := evOps_run hle hrec hk (k := k) hix' hok' (by rw [putT_size]; exact ht) hi' hf h2
      exact ⟨q1, q2.head (by rw [List.length_cons, List.range'_succ]; exact st_off ho hw')⟩
    · have hw' := want_ok (t := t) (fun j want p s v _ _ _ hv => hi.env s v hv) hw
      have l1 := o3_le hle aop_le h3
      have l2 := evOps_le hle h4
      obtain ⟨ρ', w', V, ds', s1, s2, s3, s4, s5⟩ := op_run (P := P) (k := k) (cs := cs) (rest := List.range' (i + 1) l.length) (t := t) (ds := ds) ho hw' hqo hk h3 (fun f args v h' hc => hrec f args h v h' hc)
        (fun x _ => opd_ok (a := ⟨t, ds⟩) hi.rel.glob hi.env x) hi.rel (hf.left l2) l1 hi.dfs
      have hi' : Inv ρ' base h1 w' b (putT t o.dst V) ds' (Env.put e o.dst v) d1 := ⟨s3, (hi.env.mono s4.sub).put (by rw [ht]; exact hdo) s2, s5, fun l hl => let ⟨L, hL⟩ := hi.rnd l hl; s4.loops l L hL⟩
      obtain ⟨q1, ρ2, w2, t2, ds2, k2, z1, z2, z3, z4, z5, z6, z7⟩ := evOps_run hle hrec hk (k := k) hix' hok' (by rw [putT_size]; exact ht) hi' (hf.right s4) h4
      refine ⟨q1, ρ2, w2, t2, ds2, k2, ?_, z2, z3, z4, z5, z6, s4.trans z7⟩
      rw [List.length_cons, List.range'_succ]
      exact s1.trans z1

/-- One result. -/
def resF (t : Array Value) : ResultVar → Sem Value
  | .tmp i => pure (t.getD i undef)
  | .cell a ty => do loadVar ty (← asAddr (t.getD a undef))
theorem results_eq (fn : Func) (t : Array Value) : results fn t = (do let vs ← fn.results.mapM (resF t); pure (if h : vs.size = 1 then vs[0] else .tuple vs)) := by
  unfold results
  congr 1

/-- The results. -/
theorem resA_ok {ρ : Rho} {h : Hp} {w : World} {e : Env} {t : Array Value} (r : Rel ρ base h w) (he : EnvR ρ e t) : ∀ {rs : List ResultVar} {vs : List AV}, resA P e h rs = some vs →
    ∃ L, (rs.mapM (resF t)).run P w = .ok L w ∧ VRL ρ vs L
  | [], vs, hr => by
    simp only [resA, Option.some.injEq] at hr
    subst hr
    exact ⟨[], by simp, .nil⟩
  | .tmp i :: rs, vs, hr => by
    simp only [resA] at hr
    split at hr
    · rename_i v vs' hv hvs
      simp only [Option.some.injEq] at hr
      subst hr
      obtain ⟨L, l1, l2⟩ := resA_ok r he hvs
      exact ⟨t.getD i undef :: L, by rw [List.mapM_cons]; simp only [resF, Sem.run_bind, Sem.run_pure, Result.andThen_ok, l1], .cons (he i v hv) l2⟩
    · cases hr
  | .cell a ty :: rs, vs, hr => by
    simp only [resA] at hr
    split at hr
    · rename_i p hp
      split at hr
      · rename_i v vs' hv hvs
        simp only [Option.some.injEq] at hr
        subst hr
        obtain ⟨L, l1, l2⟩ := resA_ok r he hvs
        obtain ⟨V, v1, v2⟩ := load_ok (P := P) r (he a p hp) hv
        have hpp : ∃ A, t.getD a undef = .pointer (some A) := by
          unfold load at hv
          split at hv
          · have := he a _ hp
            obtain ⟨l, _, hA⟩ := this.ptr
            exact ⟨_, hA⟩
          · cases hv
        obtain ⟨A, hA⟩ := hpp
        rw [hA] at v1
        have v1' : (loadVar ty A).run P w = .ok V w := by simpa [Instr.loadAt, Instr.sureAddr] using v1
        have hcell : (resF t (.cell a ty)).run P w = .ok V w := by simp only [resF]; rw [hA]; simpa [asAddr] using v1'
        refine ⟨V :: L, ?_, .cons v2 l2⟩
        rw [List.mapM_cons]
        simp only [Sem.run_bind, hcell, Result.andThen_ok, l1, Sem.run_pure]
      · cases hr
    · cases hr

theorem results_ok {ρ : Rho} {h : Hp} {w : World} {e : Env} {t : Array Value} (r : Rel ρ base h w) (he : EnvR ρ e t) {fn : Func} {vs : List AV} {v : AV} (hr : resA P e h fn.results.toList = some vs) (hv : vs = [v] ∨ (vs.length ≠ 1 ∧ v = .tup vs)) :
    ∃ V, (results fn t).run P w = .ok V w ∧ VR ρ v V := by
  obtain ⟨L, l1, l2⟩ := resA_ok r he hr
  have hlen := l2.length
  rw [results_eq, Array.mapM_eq_mapM_toList]
  have hm : (List.toArray <$> (List.mapM (resF t) fn.results.toList)).run P w = .ok L.toArray w := by
    simp [l1]
  simp only [Sem.run_bind, hm, Result.andThen_ok, Sem.run_pure]
  rcases hv with rfl | ⟨hl, rfl⟩
  · simp only [VRL] at l2
    obtain ⟨V, L', rfl, hV, rfl⟩ := l2
    exact ⟨V, by simp, hV⟩
  · refine ⟨.tuple L.toArray, ?_, by simp only [VR]; exact ⟨_, rfl, l2⟩⟩
    rw [dif_neg (by simp; omega)]

end run
end Go.Ev
