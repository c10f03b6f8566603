/- One operation. -/
import Derived.Test.YtibpgelajmoefaaGreatDoorEv16
namespace Go.Ev
variable {Λ : Laid}

section ops
variable {P : Program} {ρ : Rho} {base : Bs Λ} {h : Hp} {w : World}

theorem k1_inv {f : AV → OR} {o : Option AV} {R : OR} (he : k1 f o = R) (hn : R ≠ .no) : ∃ v, o = some v ∧ f v = R := by
  cases o with
  | none => exact absurd he.symm hn
  | some v => exact ⟨v, rfl, he⟩
theorem k2_inv {f : AV → AV → OR} {o o' : Option AV} {R : OR} (he : k2 f o o' = R) (hn : R ≠ .no) : ∃ v v', o = some v ∧ o' = some v' ∧ f v v' = R := by
  cases o with
  | none => exact absurd he.symm hn
  | some v =>
    cases o' with
    | none => exact absurd he.symm hn
    | some v' => exact ⟨v, v', rfl, rfl, he⟩
theorem kL_inv {f : List (Nat × AV) → OR} {o : Option (List (Nat × AV))} {R : OR} (he : kL f o = R) (hn : R ≠ .no) : ∃ v, o = some v ∧ f v = R := by
  cases o with
  | none => exact absurd he.symm hn
  | some v => exact ⟨v, rfl, he⟩
theorem kT_inv {f : TypeDesc → OR} {o : Option TypeDesc} {R : OR} (he : kT f o = R) (hn : R ≠ .no) : ∃ v, o = some v ∧ f v = R := by
  cases o with
  | none => exact absurd he.symm hn
  | some v => exact ⟨v, rfl, he⟩
theorem ofH_inv {o : Option Hp} {h' : Hp} (he : OR.ofH o = .skip h') : o = some h' := by
  cases o with
  | none => cases he
  | some a => injection he with e1; rw [e1]

/-- What the model's operation does, for what the evaluator says. -/
def OpOk (P : Program) (ρ : Rho) (base : Bs Λ) (h : Hp) (w : World) (ev : Operand → Value) (o : Oper) : OR → Prop
  | .val v h' => ∃ ρ' N w', (execOp ev o).run P w = .ok N w' ∧ Rel ρ' base h' w' ∧ Step ρ h w ρ' h' w' ∧ NextR ρ' v N (quietOp o.op = false)
  | .skip h' => ∃ w', (execOp ev o).run P w = .ok .skip w' ∧ Rel ρ base h' w' ∧ Step ρ h w ρ h' w'
  | .call f args => ∃ F A, VR ρ f F ∧ VRL ρ args A.toList ∧ execOp ev o = (do let d ← Deferred.ofValue F A; invoke d.target d.args)
  | .dfr f args => ∃ c F A, o.op = .defer c ∧ VR ρ f F ∧ VRL ρ args A.toList ∧ resolve ev c o.type = Deferred.ofValue F A
  | .no => True

theorem val_pure (r : Rel ρ base h w) {ev : Operand → Value} {o : Oper} {s : Sem Value} {v : AV} {V : Value} (hs : s.run P w = .ok V w) (hv : VR ρ v V) (he : execOp ev o = (do pure (.value (← s)))) : OpOk P ρ base h w ev o (.val v h) :=
  ⟨ρ, .value V, w, by rw [he]; simp only [Sem.run_bind, hs, Result.andThen_ok, Sem.run_pure], r, .refl _ _ _, .inl ⟨V, rfl, hv⟩⟩
theorem val_eff {ev : Operand → Value} {o : Oper} {s : Sem Value} {v : AV} {h' : Hp} (hs : ∃ ρ' V w', s.run P w = .ok V w' ∧ Rel ρ' base h' w' ∧ Step ρ h w ρ' h' w' ∧ VR ρ' v V) (he : execOp ev o = (do pure (.value (← s)))) :
    OpOk P ρ base h w ev o (.val v h') := by
  obtain ⟨ρ', V, w', h1, h2, h3, h4⟩ := hs
  exact ⟨ρ', .value V, w', by rw [he]; simp only [Sem.run_bind, h1, Result.andThen_ok, Sem.run_pure], h2, h3, .inl ⟨V, rfl, h4⟩⟩
theorem skip_eff {ev : Operand → Value} {o : Oper} {s : Sem Unit} {h' : Hp} (hs : ∃ w', s.run P w = .ok () w' ∧ Rel ρ base h' w' ∧ Step ρ h w ρ h' w') (he : execOp ev o = (do s; pure .skip)) :
    OpOk P ρ base h w ev o (.skip h') := by
  obtain ⟨w', h1, h2, h3⟩ := hs
  exact ⟨w', by rw [he]; simp only [Sem.run_bind, h1, Result.andThen_ok, Sem.run_pure], h2, h3⟩

theorem OR.cases_no {R : OR} {p : OR → Prop} (h0 : p .no) (h : R ≠ .no → p R) : p R := by
  cases R <;> first | exact h0 | exact h (by simp)

theorem opdO_ok {N : Nat} {e : Env} {ev : Operand → Value} {x : Option Operand} (ho : ∀ y, x = some y → ∀ v, opd N e y = some v → VR ρ v (ev y)) {v : Option AV} (h : opdO N e x = some v) : OptV ρ v (x.map ev) := by
  cases x with
  | none => simp only [opdO, Option.some.injEq] at h; subst h; rfl
  | some x =>
    simp only [opdO] at h
    cases hx : opd N e x with
    | none => rw [hx] at h; cases h
    | some a =>
      rw [hx] at h
      simp only [Option.some.injEq] at h
      subst h
      exact ⟨_, rfl, ho x rfl a hx⟩

theorem ofV_ok (r : Rel ρ base h w) {ev : Operand → Value} {o : Oper} {s : Sem Value} {x : Option AV} (hs : ∀ v, x = some v → ∃ V, s.run P w = .ok V w ∧ VR ρ v V) (he : execOp ev o = (do pure (.value (← s)))) :
    OpOk P ρ base h w ev o (OR.ofV h x) := by
  cases x with
  | none => trivial
  | some v =>
    obtain ⟨V, h1, h2⟩ := hs v rfl
    exact val_pure r h1 h2 he
theorem ofH_ok {ev : Operand → Value} {o : Oper} {s : Sem Unit} {x : Option Hp} (hs : ∀ h', x = some h' → ∃ w', s.run P w = .ok () w' ∧ Rel ρ base h' w' ∧ Step ρ h w ρ h' w') (he : execOp ev o = (do s; pure .skip)) :
    OpOk P ρ base h w ev o (OR.ofH x) := by
  cases x with
  | none => trivial
  | some v => exact skip_eff (hs v rfl) he
/-- A value, and the blocks as they were. -/
theorem same_ok (r : Rel ρ base h w) {ev : Operand → Value} {o : Oper} {s : Sem Value} {R : OR} (hk : ∀ h', R ≠ .skip h') (hc : ∀ f a, R ≠ .call f a) (hd : ∀ f a, R ≠ .dfr f a)
    (hs : ∀ v h', R = .val v h' → h' = h ∧ ∃ V, s.run P w = .ok V w ∧ VR ρ v V) (he : execOp ev o = (do pure (.value (← s)))) : OpOk P ρ base h w ev o R := by
  cases R with
  | val v h' =>
    obtain ⟨rfl, V, h1, h2⟩ := hs v h' rfl
    exact val_pure r h1 h2 he
  | skip h' => exact absurd rfl (hk h')
  | call f a => exact absurd rfl (hc f a)
  | dfr f a => exact absurd rfl (hd f a)
  | no => trivial
theorem new_ok {ev : Operand → Value} {o : Oper} {s : Sem Value} {R : OR} (hk : ∀ h', R ≠ .skip h') (hc : ∀ f a, R ≠ .call f a) (hd : ∀ f a, R ≠ .dfr f a)
    (hs : ∀ v h', R = .val v h' → ∃ ρ' V w', s.run P w = .ok V w' ∧ Rel ρ' base h' w' ∧ Step ρ h w ρ' h' w' ∧ VR ρ' v V) (he : execOp ev o = (do pure (.value (← s)))) : OpOk P ρ base h w ev o R := by
  cases R with
  | val v h' => exact val_eff (hs v h' rfl) he
  | skip h' => exact absurd rfl (hk h')
  | call f a => exact absurd rfl (hc f a)
  | dfr f a => exact absurd rfl (hd f a)
  | no => trivial

theorem aop_ok (r : Rel ρ base h w) (hf : ρ h.next = none) {e : Env} {ev : Operand → Value} (o : Oper) (ho : ∀ x ∈ o.op.operands.toList, ∀ v, opd h.g e x = some v → VR ρ v (ev x)) : OpOk P ρ base h w ev o (aop P e h o) := by
  apply OR.cases_no trivial
  intro hn
  have nk : ∀ {R : OR}, aopO P e h o.type o.op = R → R ≠ .no := fun q => by rw [← q]; exact hn
  unfold aop at hn ⊢
  have hex : ∀ {q : Op}, o.op = q → execOp ev o = execOp ev { o with op := q } := fun q => by subst q; rfl
  have hm : ∀ {q : Op}, o.op = q → ∀ x ∈ q.operands.toList, ∀ v, opd h.g e x = some v → VR ρ v (ev x) := fun q => by subst q; exact ho
  cases hop : o.op with
  | move x =>
    rw [hop] at hn
    have ho := hm hop
    exact ofV_ok (s := pure (ev x)) r (fun v hv => ⟨_, rfl, ho x (by simp [Op.operands]) v hv⟩) (by rw [hex hop]; rfl)
  | assign x =>
    rw [hop] at hn
    have ho := hm hop
    exact ofV_ok (s := pure (ev x)) r (fun v hv => ⟨_, rfl, ho x (by simp [Op.operands]) v hv⟩) (by rw [hex hop]; rfl)
  | pick c a b =>
    rw [hop] at hn
    have ho := hm hop
    simp only [aopO] at hn ⊢
    obtain ⟨vc, hc, he⟩ := k1_inv rfl hn
    rw [← he]
    unfold aPick
    split
    · rename_i bb
      have := ho c (by simp [Op.operands]) _ hc
      simp only [VR] at this
      refine ofV_ok (s := do pure (if ← asBool (ev c) then ev a else ev b)) r (fun v hv => ⟨if bb then ev a else ev b, by rw [this]; simp [asBool], ?_⟩) (by rw [hex hop]; simp [execOp])
      cases bb
      · exact ho b (by simp [Op.operands]) v hv
      · exact ho a (by simp [Op.operands]) v hv
    · trivial
  | alloc t =>
    rw [hop] at hn
    have ho := hm hop
    simp only [aopO] at hn ⊢
    obtain ⟨z, hz, he⟩ := k1_inv rfl hn
    rw [← he]
    obtain ⟨Z, z1, z2⟩ := r_zero (P := P) (w := w) (ρ := ρ) hz
    refine new_ok (s := Instr.alloc t true (.tuple #[])) ?_ ?_ ?_ (fun v h' hv => ?_) (by rw [hex hop]; rfl)
    · intro h'; unfold aAlloc aAlloc2; split <;> simp
    · intro f a; unfold aAlloc aAlloc2; split <;> simp
    · intro f a; unfold aAlloc aAlloc2; split <;> simp
    · obtain ⟨ρ', g1, g2, g3, g4⟩ := alloc2_ok (P := P) r hf z2 hv
      exact ⟨ρ', _, _, by simp [Instr.alloc, z1, g1], g2, g3, g4⟩
  | box t x =>
    rw [hop] at hn
    have ho := hm hop
    simp only [aopO] at hn ⊢
    obtain ⟨z, hz, he⟩ := k1_inv rfl hn
    rw [← he]
    refine new_ok (s := Instr.box t (ev x)) ?_ ?_ ?_ (fun v h' hv => ?_) (by rw [hex hop]; rfl)
    · intro h'; unfold aAlloc aAlloc2; split <;> simp
    · intro f a; unfold aAlloc aAlloc2; split <;> simp
    · intro f a; unfold aAlloc aAlloc2; split <;> simp
    · obtain ⟨ρ', g1, g2, g3, g4⟩ := alloc2_ok (P := P) (t := t) r hf (ho x (by simp [Op.operands]) z hz) hv
      exact ⟨ρ', _, _, by simp [Instr.box, g1], g2, g3, g4⟩
  | load t a =>
    rw [hop] at hn
    have ho := hm hop
    simp only [aopO] at hn ⊢
    obtain ⟨z, hz, he⟩ := k1_inv rfl hn
    rw [← he]
    exact ofV_ok (s := Instr.loadAt t (ev a)) r (fun v hv => load_ok (P := P) r (ho a (by simp [Op.operands]) z hz) hv) (by rw [hex hop]; rfl)
  | store t a x =>
    rw [hop] at hn
    have ho := hm hop
    simp only [aopO] at hn ⊢
    obtain ⟨z, z', hz, hz', he⟩ := k2_inv rfl hn
    rw [← he]
    exact ofH_ok (s := Instr.storeAt t (ev a) (ev x)) (fun v hv => store_ok (P := P) r (ho a (by simp [Op.operands]) z hz) (ho x (by simp [Op.operands]) z' hz') hv) (by rw [hex hop]; rfl)
  | insert t m k x =>
    rw [hop] at hn
    have ho := hm hop
    simp only [aopO] at hn ⊢
    obtain ⟨z, z', hz, hz', he⟩ := k2_inv rfl hn
    rw [← he] at hn ⊢
    obtain ⟨z3, hz3, he⟩ := k1_inv rfl hn
    rw [← he]
    exact ofH_ok (s := Instr.mapUpdate t (ev m) (ev k) (ev x)) (fun v hv => update_ok (P := P) r (ho m (by simp [Op.operands]) z hz) (ho k (by simp [Op.operands]) z' hz') (ho x (by simp [Op.operands]) z3 hz3) hv) (by rw [hex hop]; rfl)
  | mapUpdate t m k x =>
    rw [hop] at hn
    have ho := hm hop
    simp only [aopO] at hn ⊢
    obtain ⟨z, z', hz, hz', he⟩ := k2_inv rfl hn
    rw [← he] at hn ⊢
    obtain ⟨z3, hz3, he⟩ := k1_inv rfl hn
    rw [← he]
    exact ofH_ok (s := Instr.mapUpdate t (ev m) (ev k) (ev x)) (fun v hv => update_ok (P := P) r (ho m (by simp [Op.operands]) z hz) (ho k (by simp [Op.operands]) z' hz') (ho x (by simp [Op.operands]) z3 hz3) hv) (by rw [hex hop]; rfl)
  | nilCheck x =>
    rw [hop] at hn
    have ho := hm hop
    simp only [aopO] at hn ⊢
    obtain ⟨z, hz, he⟩ := k1_inv rfl hn
    rw [← he] at hn ⊢
    have hz := ho x (by simp [Op.operands]) z hz
    unfold aNilCheck
    split
    · obtain ⟨l, hb, hX⟩ := hz.ptr
      exact val_pure (s := pure (ev x)) r rfl hz (by rw [hex hop]; simp only [execOp, hX]; rfl)
    · have hz' := hz
      simp only [VR, FnR] at hz'
      obtain ⟨F, A, C, hX, rfl, _⟩ := hz'
      exact val_pure (s := pure (ev x)) r rfl hz (by rw [hex hop]; simp only [execOp, hX]; rfl)
    · have hz' := hz
      simp only [VR, FnR] at hz'
      obtain ⟨F, A, C, hX, ⟨a, _, rfl⟩, _⟩ := hz'
      exact val_pure (s := pure (ev x)) r rfl hz (by rw [hex hop]; simp only [execOp, hX]; rfl)
    · trivial
  | binOp bo t x y u =>
    rw [hop] at hn
    have ho := hm hop
    simp only [aopO] at hn ⊢
    obtain ⟨z, z', hz, hz', he⟩ := k2_inv rfl hn
    rw [← he]
    exact ofV_ok (s := do eqGuard bo t x y (ev x) (ev y); binOp bo t (ev x) (ev y)) r (fun v hv => binA_ok (P := P) (ho x (by simp [Op.operands]) z hz) (ho y (by simp [Op.operands]) z' hz') hv) (by rw [hex hop]; rfl)
  | unOp uo t x =>
    rw [hop] at hn
    have ho := hm hop
    simp only [aopO] at hn ⊢
    obtain ⟨z, hz, he⟩ := k1_inv rfl hn
    rw [← he]
    exact ofV_ok (s := Op.unary uo (ev x)) r (fun v hv => unA_ok (P := P) (ho x (by simp [Op.operands]) z hz) hv) (by rw [hex hop]; rfl)
  | convert s d x =>
    rw [hop] at hn
    have ho := hm hop
    simp only [aopO] at hn ⊢
    obtain ⟨z, hz, he⟩ := k1_inv rfl hn
    rw [← he]
    exact ofV_ok (s := Go.convert s d (ev x)) r (fun v hv => conv_ok (P := P) r (ho x (by simp [Op.operands]) z hz) hv) (by rw [hex hop]; rfl)
  | makeInterface t x =>
    rw [hop] at hn
    have ho := hm hop
    simp only [aopO] at hn ⊢
    obtain ⟨z, hz, he⟩ := k1_inv rfl hn
    rw [← he]
    refine same_ok (s := Instr.makeInterface t (ev x)) r ?_ ?_ ?_ (fun v h' hv => iface_ok (P := P) (ho x (by simp [Op.operands]) z hz) hv) (by rw [hex hop]; rfl)
    · intro h'; unfold aIface; split <;> simp
    · intro f a; unfold aIface; split <;> simp
    · intro f a; unfold aIface; split <;> simp
  | makeFunc f a c =>
    rw [hop] at hn
    have ho := hm hop
    simp only [aopO] at hn ⊢
    refine same_ok (s := Instr.makeFunc f (a.map ev) (c.map ev)) r ?_ ?_ ?_ (fun v h' hv => func_ok (P := P) (fun l hl => by rw [Array.toList_map]; exact opds_ok (fun y hy => ho y (by simp [Op.operands, Array.mem_toList_iff.1 hy])) hl) (fun l hl => by rw [Array.toList_map]; exact opds_ok (fun y hy => ho y (by simp [Op.operands, Array.mem_toList_iff.1 hy])) hl) hv) (by rw [hex hop]; rfl)
    · intro h'; unfold aFunc; split <;> (try split) <;> simp
    · intro f a; unfold aFunc; split <;> (try split) <;> simp
    · intro f a; unfold aFunc; split <;> (try split) <;> simp
  | makeMap t x =>
    rw [hop] at hn
    have ho := hm hop
    cases x with
    | none =>
      simp only [aopO] at hn ⊢
      exact val_eff (s := Instr.makeMap t none) (makeMapN_ok (P := P) r hf ⟨rfl, rfl⟩) (by rw [hex hop]; rfl)
    | some x =>
      simp only [aopO] at hn ⊢
      obtain ⟨z, hz, he⟩ := k1_inv rfl hn
      rw [← he]
      refine new_ok (s := Instr.makeMap t (some (ev x))) ?_ ?_ ?_ (fun v h' hv => makeMap_ok (P := P) r hf (ho x (by simp [Op.operands]) z hz) hv) (by rw [hex hop]; rfl)
      · intro h'; unfold aMakeMap; split <;> (try split) <;> simp
      · intro f a; unfold aMakeMap; split <;> (try split) <;> simp
      · intro f a; unfold aMakeMap; split <;> (try split) <;> simp
  | makeSlice t x y =>
    rw [hop] at hn
    have ho := hm hop
    simp only [aopO] at hn ⊢
    obtain ⟨z, z', hz, hz', he⟩ := k2_inv rfl hn
    rw [← he]
    have no2 : ∀ (l c el : Nat) (R : OR), aMakeSlice2 P h l c el = R → (∀ h', R ≠ .skip h') ∧ (∀ f a, R ≠ .call f a) ∧ (∀ f a, R ≠ .dfr f a) := by
      intro l c el R hR
      subst hR
      unfold aMakeSlice2
      split
      · rename_i s zz bs _ _ _
        cases Nat.ble l c && Nat.ble c 1000000 && Nat.ble bs 100000 && Nat.beq zz.length s <;> simp
      · simp
    have no3 : (∀ h', aMakeSlice P t h z z' ≠ .skip h') ∧ (∀ f a, aMakeSlice P t h z z' ≠ .call f a) ∧ (∀ f a, aMakeSlice P t h z z' ≠ .dfr f a) := by
      unfold aMakeSlice
      split
      · exact no2 _ _ _ _ rfl
      · simp
    exact new_ok (s := Instr.makeSlice t (ev x) (ev y)) no3.1 no3.2.1 no3.2.2 (fun v h' hv => makeSlice_ok (P := P) r hf (ho x (by simp [Op.operands]) z hz) (ho y (by simp [Op.operands]) z' hz') hv) (by rw [hex hop]; rfl)
  | slice t x lo hi mx =>
    rw [hop] at hn
    have ho := hm hop
    simp only [aopO] at hn ⊢
    obtain ⟨z, hz, he⟩ := k1_inv rfl hn
    rw [← he] at hn ⊢
    unfold aSlice at hn ⊢
    split at hn
    · rename_i l1 l2 l3 q1 q2 q3
      exact ofV_ok (s := Instr.sliceAt t (ev x) (lo.map ev) (hi.map ev) (mx.map ev)) r (fun v hv => slice_ok (P := P) (ho x (by simp [Op.operands]) z hz) (opdO_ok (fun y hy => ho y (by simp [Op.operands, hy])) q1) (opdO_ok (fun y hy => ho y (by simp [Op.operands, hy])) q2) (opdO_ok (fun y hy => ho y (by simp [Op.operands, hy])) q3) hv) (by rw [hex hop]; rfl)
    · exact absurd rfl hn
  | fieldAddr t x f =>
    rw [hop] at hn
    have ho := hm hop
    simp only [aopO] at hn ⊢
    obtain ⟨z, hz, he⟩ := k1_inv rfl hn
    rw [← he]
    have no2 : ∀ (b o : Nat) (fd : Option Field) (R : OR), aFieldAddr2 P h b o fd = R → (∀ h', R ≠ .skip h') ∧ (∀ f a, R ≠ .call f a) ∧ (∀ f a, R ≠ .dfr f a) := by
      intro b o fd R hR
      subst hR
      unfold aFieldAddr2
      split <;> (try split) <;> simp
    have no3 : (∀ h', aFieldAddr P t f h z ≠ .skip h') ∧ (∀ g a, aFieldAddr P t f h z ≠ .call g a) ∧ (∀ g a, aFieldAddr P t f h z ≠ .dfr g a) := by
      unfold aFieldAddr
      split
      · split
        · exact no2 _ _ _ _ rfl
        · simp
      · simp
    exact same_ok (s := Instr.fieldAt t (ev x) f) r no3.1 no3.2.1 no3.2.2 (fun v h' hv => fieldAddr_ok (P := P) (ho x (by simp [Op.operands]) z hz) hv) (by rw [hex hop]; rfl)
  | field t x f =>
    rw [hop] at hn
    have ho := hm hop
    simp only [aopO] at hn ⊢
    obtain ⟨z, hz, he⟩ := k1_inv rfl hn
    rw [← he]
    have no2 : ∀ (l : List AV) (fd : Option Field) (R : OR), aField2 P h l fd = R → (∀ h', R ≠ .skip h') ∧ (∀ f a, R ≠ .call f a) ∧ (∀ f a, R ≠ .dfr f a) := by
      intro l fd R hR
      subst hR
      unfold aField2 OR.ofV
      split <;> (try split) <;> simp
    have no3 : (∀ h', aField P t f h z ≠ .skip h') ∧ (∀ g a, aField P t f h z ≠ .call g a) ∧ (∀ g a, aField P t f h z ≠ .dfr g a) := by
      unfold aField
      split
      · split
        · exact no2 _ _ _ rfl
        · simp
      · simp
    exact same_ok (s := Instr.field t (ev x) f) r no3.1 no3.2.1 no3.2.2 (fun v h' hv => field_ok (P := P) (ho x (by simp [Op.operands]) z hz) hv) (by rw [hex hop]; rfl)
  | indexAddr t x y =>
    rw [hop] at hn
    have ho := hm hop
    simp only [aopO] at hn ⊢
    obtain ⟨z, z', hz, hz', he⟩ := k2_inv rfl hn
    rw [← he]
    exact ofV_ok (s := Instr.indexAt t (ev x) (ev y)) r (fun v hv => indexAddr_ok (P := P) (ho x (by simp [Op.operands]) z hz) (ho y (by simp [Op.operands]) z' hz') hv) (by rw [hex hop]; rfl)
  | index t x y =>
    rw [hop] at hn
    have ho := hm hop
    simp only [aopO] at hn ⊢
    obtain ⟨z, z', hz, hz', he⟩ := k2_inv rfl hn
    rw [← he]
    exact ofV_ok (s := Instr.index t (ev x) (ev y)) r (fun v hv => index_ok (P := P) (ho x (by simp [Op.operands]) z hz) (ho y (by simp [Op.operands]) z' hz') hv) (by rw [hex hop]; rfl)
  | lookup t x y ok =>
    rw [hop] at hn
    have ho := hm hop
    simp only [aopO] at hn ⊢
    obtain ⟨z, z', hz, hz', he⟩ := k2_inv rfl hn
    rw [← he]
    exact ofV_ok (s := Instr.lookup t (ev x) (ev y) ok) r (fun v hv => lookup_ok (P := P) r (ho x (by simp [Op.operands]) z hz) (ho y (by simp [Op.operands]) z' hz') hv) (by rw [hex hop]; rfl)
  | range t x =>
    rw [hop] at hn
    have ho := hm hop
    simp only [aopO] at hn ⊢
    obtain ⟨z, hz, he⟩ := k1_inv rfl hn
    rw [← he]
    refine new_ok (s := Instr.range t (ev x)) ?_ ?_ ?_ (fun v h' hv => range_ok (P := P) r hf (ho x (by simp [Op.operands]) z hz) hv) (by rw [hex hop]; rfl)
    · intro h'; unfold aRange; split <;> (try split) <;> simp
    · intro f a; unfold aRange; split <;> (try split) <;> simp
    · intro f a; unfold aRange; split <;> (try split) <;> simp
  | next it b =>
    rw [hop] at hn
    have ho := hm hop
    cases b with
    | false => exact absurd rfl hn
    | true =>
      simp only [aopO] at hn ⊢
      obtain ⟨z, hz, he⟩ := k1_inv rfl hn
      rw [← he]
      have no3 : (∀ h', nextA h z ≠ .skip h') ∧ (∀ g a, nextA h z ≠ .call g a) ∧ (∀ g a, nextA h z ≠ .dfr g a) := by
        unfold nextA
        split
        · split
          · rename_i n v pos _
            cases Nat.blt pos n <;> simp
          · simp
        · simp
      refine new_ok (s := Instr.next (ev it) true o.type) no3.1 no3.2.1 no3.2.2 (fun v h' hv => ?_) (by rw [hex hop]; rfl)
      obtain ⟨V, w', g⟩ := next_ok (P := P) (ty := o.type) r (ho it (by simp [Op.operands]) z hz) hv
      exact ⟨ρ, V, w', g⟩
  | typeAssert x xt t b =>
    rw [hop] at hn
    have ho := hm hop
    cases b with
    | false => exact absurd rfl hn
    | true =>
      simp only [aopO] at hn ⊢
      obtain ⟨z, hz, he⟩ := k1_inv rfl hn
      rw [← he]
      have no3 : (∀ h', aAssert P t h z ≠ .skip h') ∧ (∀ g a, aAssert P t h z ≠ .call g a) ∧ (∀ g a, aAssert P t h z ≠ .dfr g a) := by
        unfold aAssert
        split
        · simp
        · simp
        · split
          · split <;> simp
          · rename_i u v
            cases Nat.beq u t <;> simp
          · simp
      exact same_ok (s := Instr.typeAssert (ev x) xt t true) r no3.1 no3.2.1 no3.2.2 (fun v h' hv => assert_ok (P := P) (xt := xt) (ho x (by simp [Op.operands]) z hz) hv) (by rw [hex hop]; rfl)
  | extract x i =>
    rw [hop] at hn
    have ho := hm hop
    simp only [aopO] at hn ⊢
    obtain ⟨z, hz, he⟩ := k1_inv rfl hn
    rw [← he]
    have no3 : (∀ h', aExtract i h z ≠ .skip h') ∧ (∀ g a, aExtract i h z ≠ .call g a) ∧ (∀ g a, aExtract i h z ≠ .dfr g a) := by
      unfold aExtract OR.ofV
      split <;> (try split) <;> simp
    exact same_ok (s := Instr.extract (ev x) i) r no3.1 no3.2.1 no3.2.2 (fun v h' hv => extract_ok (P := P) (ho x (by simp [Op.operands]) z hz) hv) (by rw [hex hop]; rfl)
  | build t ps =>
    rw [hop] at hn
    have ho := hm hop
    simp only [aopO] at hn ⊢
    obtain ⟨vs, hvs, he⟩ := kL_inv rfl hn
    rw [← he] at hn ⊢
    obtain ⟨z, hz, he⟩ := k1_inv rfl hn
    rw [← he] at hn ⊢
    obtain ⟨d, hd, he⟩ := kT_inv rfl hn
    rw [← he] at hn ⊢
    have hp := opParts_ok (fun y hy => ho y.2 (by simp only [Op.operands, List.mem_map]; exact ⟨y, hy, rfl⟩)) hvs
    have no3 : (∀ h', aBuild P h vs z.cells d ≠ .skip h') ∧ (∀ g a, aBuild P h vs z.cells d ≠ .call g a) ∧ (∀ g a, aBuild P h vs z.cells d ≠ .dfr g a) := by
      unfold aBuild OR.ofV
      split
      · split
        · split <;> simp
        · simp
      · split
        · split <;> simp
        · simp
      · simp
    refine same_ok (s := Instr.build t (ps.map fun (i, x) => (i, ev x))) r no3.1 no3.2.1 no3.2.2 (fun v h' hv => build_ok (P := P) hd hz ?_ hv) (by rw [hex hop]; rfl)
    rw [Array.toList_map]
    exact hp
  | buildSlice t len ps =>
    rw [hop] at hn
    have ho := hm hop
    simp only [aopO] at hn ⊢
    obtain ⟨vs, hvs, he⟩ := kL_inv rfl hn
    rw [← he] at hn ⊢
    obtain ⟨d, hd, he⟩ := kT_inv rfl hn
    rw [← he] at hn ⊢
    have hp := opParts_ok (fun y hy => ho y.2 (by simp only [Op.operands, List.mem_map]; exact ⟨y, hy, rfl⟩)) hvs
    have no1 : ∀ (el s : Nat) (x : Option (List AV)) (R : OR), aBuildSlice1 h el len s x = R → (∀ h', R ≠ .skip h') ∧ (∀ f a, R ≠ .call f a) ∧ (∀ f a, R ≠ .dfr f a) := by
      intro el s x R hR
      subst hR
      unfold aBuildSlice1
      split <;> simp
    have no3 : (∀ h', aBuildSlice P h len vs d ≠ .skip h') ∧ (∀ g a, aBuildSlice P h len vs d ≠ .call g a) ∧ (∀ g a, aBuildSlice P h len vs d ≠ .dfr g a) := by
      unfold aBuildSlice
      split
      · split
        · rename_i s _
          split
          · rename_i z _
            cases Nat.ble (len * s) 16777216 && Nat.beq z.length s
            · simp
            · exact no1 _ _ _ _ rfl
          · simp
        · simp
      · simp
    refine new_ok (s := Instr.buildSlice t len (ps.map fun (i, x) => (i, ev x))) no3.1 no3.2.1 no3.2.2 (fun v h' hv => buildSlice_ok (P := P) r hf hd ?_ hv) (by rw [hex hop]; rfl)
    rw [Array.toList_map]
    exact hp
  | call c =>
    rw [hop] at hn
    have ho := hm hop
    simp only [aopO] at hn ⊢
    unfold aCall at hn ⊢
    split at hn
    · rename_i args hargs
      have hA : VRL ρ args (c.args.map ev).toList := by rw [Array.toList_map]; exact opds_ok (fun y hy => ho y (by simp [Op.operands, Call.operands, Array.mem_toList_iff.1 hy])) hargs
      unfold aCall2 at hn ⊢
      split at hn
      · rename_i _ b hb
        cases hR : builtinA P b c.argTypes.toList o.type h args with
        | val v h' =>
          obtain ⟨ρ', N, w', g, g2, g3, g4⟩ := builtin_ok (P := P) (cs := c.args.map fun | .const _ => true | _ => false) r hf hA hR
          refine ⟨ρ', N, w', by rw [hex hop]; simp only [execOp, resolve, hb, pure_bind]; exact g, g2, g3, g4.imp id fun q => ⟨q.1, q.2.1, ?_⟩⟩
          rw [hop]
          have hbr := q.2.2
          subst hbr
          obtain ⟨callee, args', ats⟩ := c
          simp only at hb
          subst hb
          rfl
        | skip h' => trivial
        | call f a => trivial
        | dfr f a => trivial
        | no => trivial
      · rename_i _ f hb
        obtain ⟨z, hz, he⟩ := k1_inv rfl hn
        rw [← he]
        exact ⟨ev f, c.args.map ev, ho f (by simp [Op.operands, Call.operands, hb]) z hz, hA, by rw [hex hop]; simp only [execOp, resolve, hb]⟩
      · exact absurd rfl hn
    · exact absurd rfl hn
  | defer c =>
    rw [hop] at hn
    have ho := hm hop
    simp only [aopO] at hn ⊢
    unfold aDefer at hn ⊢
    split at hn
    · rename_i args hargs
      have hA : VRL ρ args (c.args.map ev).toList := by rw [Array.toList_map]; exact opds_ok (fun y hy => ho y (by simp [Op.operands, Call.operands, Array.mem_toList_iff.1 hy])) hargs
      split at hn
      · rename_i f hcal
        obtain ⟨z, hz, he⟩ := k1_inv rfl hn
        rw [← he]
        exact ⟨c, ev f, c.args.map ev, hop, ho f (by simp [Op.operands, Call.operands, hcal]) z hz, hA, by simp only [resolve, hcal]⟩
      · exact absurd rfl hn
    · exact absurd rfl hn
  | _ =>
    rw [hop] at hn
    have ho := hm hop
    exact absurd rfl hn

end ops
end Go.Ev
