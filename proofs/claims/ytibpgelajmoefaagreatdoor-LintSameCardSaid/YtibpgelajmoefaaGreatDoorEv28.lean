/- Drawn regions: what each class of operations does to the blocks; pending blocks. -/
import Derived.Test.YtibpgelajmoefaaGreatDoorEv27
namespace Go.Ev
variable {Λ : Laid}

mutual
theorem eqAV_eq : ∀ {a b : AV}, eqAV a b = true → a = b
  | .bool a, b, h => by
    cases b <;> simp only [eqAV] at h <;> first | (cases h; done) | skip
    rw [beq_iff_eq] at h; rw [h]
  | .int k a, b, h => by
    cases b <;> simp only [eqAV] at h <;> first | (cases h; done) | skip
    rename_i j c
    rw [Bool.and_eq_true] at h
    have h1 : k = j := by
      have := Nat.eq_of_beq_eq_true h.1
      cases k <;> cases j <;> first | rfl | (simp [IntKind.ctorIdx] at this)
    have h2 : a = c := by
      have := h.2
      cases a <;> cases c <;> simp only [eqI] at this <;> first | (cases this; done) | rw [Nat.eq_of_beq_eq_true this]
    rw [h1, h2]
  | .str n a, b, h => by
    cases b <;> simp only [eqAV] at h <;> first | (cases h; done) | skip
    rw [Bool.and_eq_true] at h
    rw [Nat.eq_of_beq_eq_true h.1, Nat.eq_of_beq_eq_true h.2]
  | .ptr n a, b, h => by
    cases b <;> simp only [eqAV] at h <;> first | (cases h; done) | skip
    rw [Bool.and_eq_true] at h
    rw [Nat.eq_of_beq_eq_true h.1, Nat.eq_of_beq_eq_true h.2]
  | .nilp, b, h => by
    cases b <;> simp only [eqAV] at h <;> first | (cases h; done) | rfl
  | .sl b o n e c, x, h => by
    cases x <;> simp only [eqAV] at h <;> first | (cases h; done) | skip
    simp only [Bool.and_eq_true, beq_iff_eq] at h
    obtain ⟨⟨⟨⟨h1, h2⟩, h3⟩, h4⟩, h5⟩ := h
    rw [Nat.eq_of_beq_eq_true h1, Nat.eq_of_beq_eq_true h2, Nat.eq_of_beq_eq_true h3, Nat.eq_of_beq_eq_true h4, h5]
  | .nils, b, h => by
    cases b <;> simp only [eqAV] at h <;> first | (cases h; done) | rfl
  | .map n, b, h => by
    cases b <;> simp only [eqAV] at h <;> first | (cases h; done) | skip
    rw [Nat.eq_of_beq_eq_true h]
  | .nilm, b, h => by
    cases b <;> simp only [eqAV] at h <;> first | (cases h; done) | rfl
  | .fn f a c, x, h => by
    cases x <;> simp only [eqAV] at h <;> first | (cases h; done) | skip
    rename_i g a' c'
    simp only [Bool.and_eq_true] at h
    have h1 : f = g := by
      have := h.1.1
      cases f <;> cases g <;> simp only [eqFn] at this <;> first | (cases this; done) | rw [Nat.eq_of_beq_eq_true this]
    rw [h1, eqAVs_eq h.1.2, eqAVs_eq h.2]
  | .nilf, b, h => by
    cases b <;> simp only [eqAV] at h <;> first | (cases h; done) | rfl
  | .iface t v, b, h => by
    cases b <;> simp only [eqAV] at h <;> first | (cases h; done) | skip
    rw [Bool.and_eq_true] at h
    rw [Nat.eq_of_beq_eq_true h.1, eqAV_eq h.2]
  | .nili, b, h => by
    cases b <;> simp only [eqAV] at h <;> first | (cases h; done) | rfl
  | .agg l, b, h => by
    cases b <;> simp only [eqAV] at h <;> first | (cases h; done) | skip
    rw [eqAVs_eq h]
  | .tup l, b, h => by
    cases b <;> simp only [eqAV] at h <;> first | (cases h; done) | skip
    rw [eqAVs_eq h]
theorem eqAVs_eq : ∀ {a b : List AV}, eqAVs a b = true → a = b
  | [], b, h => by
    cases b <;> simp only [eqAVs] at h <;> first | (cases h; done) | rfl
  | x :: l, b, h => by
    cases b <;> simp only [eqAVs] at h <;> first | (cases h; done) | skip
    rw [Bool.and_eq_true] at h
    rw [eqAV_eq h.1, eqAVs_eq h.2]
end

/-! Of the operands alone; reads. -/
def Same01 (h : Hp) (R : OR) : Prop := R = .no ∨ ∃ v, R = .val v h

section cls
variable {P : Program}

theorem Same01.no {h : Hp} : Same01 h .no := .inl rfl
theorem Same01.val {h : Hp} {v : AV} : Same01 h (.val v h) := .inr ⟨v, rfl⟩
theorem Same01.ofV {h : Hp} {o : Option AV} : Same01 h (OR.ofV h o) := by cases o <;> first | exact .inl rfl | exact .inr ⟨_, rfl⟩
theorem Same01.k1 {h : Hp} {f : AV → OR} {o : Option AV} (hf : ∀ v, Same01 h (f v)) : Same01 h (k1 f o) := by
  cases o
  · exact .inl rfl
  · exact hf _
theorem Same01.k2 {h : Hp} {f : AV → AV → OR} {o o' : Option AV} (hf : ∀ v u, Same01 h (f v u)) : Same01 h (k2 f o o') := by
  cases o
  · exact .inl rfl
  · cases o'
    · exact .inl rfl
    · exact hf _ _
theorem Same01.kL {h : Hp} {f : List (Nat × AV) → OR} {o : Option (List (Nat × AV))} (hf : ∀ v, Same01 h (f v)) : Same01 h (kL f o) := by
  cases o
  · exact .inl rfl
  · exact hf _
theorem Same01.kT {h : Hp} {f : TypeDesc → OR} {o : Option TypeDesc} (hf : ∀ v, Same01 h (f v)) : Same01 h (kT f o) := by
  cases o
  · exact .inl rfl
  · exact hf _
theorem Same01.cond {h : Hp} {b : Bool} {x y : OR} (h1 : Same01 h x) (h2 : Same01 h y) : Same01 h (bif b then x else y) := by cases b <;> assumption

theorem builtin01 {h : Hp} {b : Builtin} {ts : List TypeId} {ty : TypeId} {args : List AV} (hc : clsB b ≤ 1) : Same01 h (OR.onlyV (builtinA P b ts ty h args)) := by
  have key : ∀ R, Same01 h R → Same01 h (OR.onlyV R) := by
    rintro R (rfl | ⟨v, rfl⟩)
    · exact .inl rfl
    · exact .inr ⟨v, rfl⟩
  apply key
  cases b <;> simp only [clsB] at hc <;> try omega
  all_goals (unfold builtinA; repeat' split) <;> first | exact .inl rfl | exact .inr ⟨_, rfl⟩ | (exact .cond .no .val) | (simp_all; done) | skip

theorem cls01 {e : Env} {h : Hp} {o : Oper} (hc : clsOf o.op ≤ 1) : Same01 h (aop P e h o) := by
  unfold aop
  generalize o.op = op at hc
  cases op <;> simp only [clsOf] at hc <;> try omega
  case move x => exact .ofV
  case pick c a b =>
    refine .k1 fun v => ?_
    unfold aPick
    split
    · exact .ofV
    · exact .no
  case build t ps =>
    refine .kL fun vs => .k1 fun z => .kT fun d => ?_
    unfold aBuild
    split
    · split
      · exact .ofV
      · exact .no
    · split
      · exact .ofV
      · exact .no
    · exact .no
  case load t a => exact .k1 fun _ => .ofV
  case nilCheck x =>
    refine .k1 fun v => ?_
    unfold aNilCheck
    split
    · exact .val
    · exact .val
    · exact .val
    · exact .no
  case binOp => exact .k2 fun _ _ => .ofV
  case unOp => exact .k1 fun _ => .ofV
  case convert => exact .k1 fun _ => .ofV
  case makeInterface t x =>
    refine .k1 fun v => ?_
    unfold aIface
    split
    · exact .no
    · exact .val
    · exact .no
  case makeFunc f a c =>
    simp only [aopO]
    unfold aFunc
    split
    · split
      · exact .val
      · exact .no
    · exact .no
  case slice t x lo hi mx =>
    refine .k1 fun v => ?_
    unfold aSlice
    split
    · exact .ofV
    · exact .no
  case fieldAddr t x f =>
    refine .k1 fun v => ?_
    unfold aFieldAddr
    split
    · split
      · unfold aFieldAddr2
        split
        · split
          · exact .val
          · exact .no
        · exact .no
      · exact .no
    · exact .no
  case field t x f =>
    refine .k1 fun v => ?_
    unfold aField
    split
    · split
      · unfold aField2
        split
        · exact .ofV
        · exact .no
      · exact .no
    · exact .no
  case indexAddr => exact .k2 fun _ _ => .ofV
  case index => exact .k2 fun _ _ => .ofV
  case lookup => exact .k2 fun _ _ => .ofV
  case typeAssert x _ t ok =>
    cases ok with
    | false => exact .no
    | true =>
      refine .k1 fun v => ?_
      unfold aAssert
      split
      · exact .no
      · exact .no
      · split
        · split
          · exact .val
          · exact .no
        · exact .cond .val .no
        · exact .no
  case extract t i =>
    refine .k1 fun v => ?_
    unfold aExtract
    split
    · exact .ofV
    · exact .no
  case call c =>
    cases c with
    | mk callee args argTypes =>
    simp only [aopO]
    unfold aCall
    split
    · cases callee with
      | builtin b => exact builtin01 hc
      | value f => exact absurd hc (by simp)
      | _ => exact .no
    · exact .no

/-- Of the operands alone: the blocks are all the same. -/
def Free0 (g : Nat) (R : Hp → OR) : Prop := ∃ x : Option AV, ∀ h : Hp, h.g = g → R h = OR.ofV h x

theorem Free0.no {g : Nat} : Free0 g fun _ => .no := ⟨none, fun _ _ => rfl⟩
theorem Free0.val {g : Nat} {v : AV} : Free0 g fun h => .val v h := ⟨some v, fun _ _ => rfl⟩
theorem Free0.ofV {g : Nat} {o : Option AV} : Free0 g fun h => OR.ofV h o := ⟨o, fun _ _ => rfl⟩
theorem Free0.k1 {g : Nat} {f : Hp → AV → OR} {o : Nat → Option AV} (hf : ∀ v, Free0 g fun h => f h v) : Free0 g fun h => k1 (f h) (o h.g) := by
  cases ho : o g with
  | none => exact ⟨none, fun h hg => by dsimp only; rw [hg, ho]; rfl⟩
  | some v => obtain ⟨x, hx⟩ := hf v; dsimp only at hx; exact ⟨x, fun h hg => by dsimp only; rw [← hx h hg]; rw [hg, ho]; rfl⟩
theorem Free0.k2 {g : Nat} {f : Hp → AV → AV → OR} {o o' : Nat → Option AV} (hf : ∀ v u, Free0 g fun h => f h v u) : Free0 g fun h => k2 (f h) (o h.g) (o' h.g) := by
  cases ho : o g with
  | none => exact ⟨none, fun h hg => by dsimp only; rw [hg, ho]; rfl⟩
  | some v =>
    cases ho' : o' g with
    | none => exact ⟨none, fun h hg => by dsimp only; rw [hg, ho, ho']; rfl⟩
    | some u => obtain ⟨x, hx⟩ := hf v u; dsimp only at hx; exact ⟨x, fun h hg => by dsimp only; rw [← hx h hg]; rw [hg, ho, ho']; rfl⟩
theorem Free0.kL {g : Nat} {f : Hp → List (Nat × AV) → OR} {o : Nat → Option (List (Nat × AV))} (hf : ∀ v, Free0 g fun h => f h v) : Free0 g fun h => kL (f h) (o h.g) := by
  cases ho : o g with
  | none => exact ⟨none, fun h hg => by dsimp only; rw [hg, ho]; rfl⟩
  | some v => obtain ⟨x, hx⟩ := hf v; dsimp only at hx; exact ⟨x, fun h hg => by dsimp only; rw [← hx h hg]; rw [hg, ho]; rfl⟩
theorem Free0.kT {g : Nat} {f : Hp → TypeDesc → OR} {o : Option TypeDesc} (hf : ∀ v, Free0 g fun h => f h v) : Free0 g fun h => Ev.kT (f h) o := by
  cases o with
  | none => exact ⟨none, fun h hg => rfl⟩
  | some v => exact hf v
theorem Free0.k1c {g : Nat} {f : Hp → AV → OR} {o : Option AV} (hf : ∀ v, Free0 g fun h => f h v) : Free0 g fun h => Ev.k1 (f h) o := by
  cases o with
  | none => exact ⟨none, fun h hg => rfl⟩
  | some v => exact hf v
theorem Free0.cond {g : Nat} {b : Bool} {x y : Hp → OR} (h1 : Free0 g x) (h2 : Free0 g y) : Free0 g fun h => bif b then x h else y h := by cases b <;> assumption

theorem builtin0 {g : Nat} {b : Builtin} {ts : List TypeId} {ty : TypeId} {args : List AV} (hc : clsB b = 0) : Free0 g fun h => OR.onlyV (builtinA P b ts ty h args) := by
  have key : ∀ R : Hp → OR, Free0 g R → Free0 g fun h => OR.onlyV (R h) := by
    rintro R ⟨x, hx⟩
    exact ⟨x, fun h hg => by dsimp only; rw [hx h hg]; cases x <;> rfl⟩
  apply key
  cases b <;> simp only [clsB] at hc <;> try (exact absurd hc (by decide))
  all_goals unfold builtinA
  all_goals repeat' split
  all_goals first | exact .no | exact .val | exact .cond .no .val | (simp_all; done)

theorem cls0 {e : Env} {o : Oper} {g : Nat} (hc : clsOf o.op = 0) : Free0 g fun h => aop P e h o := by
  unfold aop
  generalize o.op = op at hc
  cases op <;> simp only [clsOf] at hc <;> try (exact absurd hc (by decide))
  case move x =>
    refine ⟨opd g e x, fun h hg => ?_⟩
    simp only [aopO, hg]
  case pick c a b =>
    simp only [aopO]
    refine .k1 (o := fun g => opd g e c) fun v => ?_
    cases v with
    | bool q =>
      refine ⟨bif q then opd g e a else opd g e b, fun h hg => ?_⟩
      simp only [aPick, hg]
    | _ => exact .no
  case build t ps =>
    simp only [aopO]
    refine .kL (o := fun g => opParts g e ps.toList) fun vs => .k1c fun z => .kT fun d => ?_
    unfold aBuild
    split
    · split
      · exact .ofV
      · exact .no
    · split
      · exact .ofV
      · exact .no
    · exact .no
  case nilCheck x =>
    simp only [aopO]
    refine .k1 (o := fun g => opd g e x) fun v => ?_
    unfold aNilCheck
    split
    · exact .val
    · exact .val
    · exact .val
    · exact .no
  case binOp op t x y yt =>
    simp only [aopO]
    exact .k2 (o := fun g => opd g e x) (o' := fun g => opd g e y) fun _ _ => .ofV
  case unOp op t x =>
    simp only [aopO]
    exact .k1 (o := fun g => opd g e x) fun _ => .ofV
  case makeInterface t x =>
    simp only [aopO]
    refine .k1 (o := fun g => opd g e x) fun v => ?_
    unfold aIface
    split
    · exact .no
    · exact .val
    · exact .no
  case makeFunc f a c =>
    refine ⟨match opds g e a.toList, opds g e c.toList, f with
      | some a, some c, .func g => some (.fn (.func g) a c)
      | _, _, _ => none, fun h hg => ?_⟩
    simp only [aopO, hg, aFunc]
    split
    · rename_i x y hx hy
      rw [hx, hy]
      split
      · rfl
      · rename_i hn
        split
        · rename_i hf; exact absurd rfl (hn _)
        · rfl
    · rename_i hn
      split
      · rename_i hx hy; exact absurd hy (hn _ _ hx)
      · rfl
  case slice t x lo hi mx =>
    simp only [aopO]
    refine ⟨match opd g e x, opdO g e lo, opdO g e hi, opdO g e mx with
      | some x, some lo, some hi, some mx => sliceA P t x lo hi mx
      | _, _, _, _ => none, fun h hg => ?_⟩
    dsimp only
    rw [hg]
    cases opd g e x with
    | none => rfl
    | some v =>
      simp only [Ev.k1, aSlice]
      cases opdO g e lo <;> cases opdO g e hi <;> cases opdO g e mx <;> rfl
  case fieldAddr t x f =>
    simp only [aopO]
    refine .k1 (o := fun g => opd g e x) fun v => ?_
    unfold aFieldAddr
    split
    · split
      · unfold aFieldAddr2
        split
        · split
          · exact .val
          · exact .no
        · exact .no
      · exact .no
    · exact .no
  case field t x f =>
    simp only [aopO]
    refine .k1 (o := fun g => opd g e x) fun v => ?_
    unfold aField
    split
    · split
      · unfold aField2
        split
        · exact .ofV
        · exact .no
      · exact .no
    · exact .no
  case indexAddr t x i =>
    simp only [aopO]
    exact .k2 (o := fun g => opd g e x) (o' := fun g => opd g e i) fun _ _ => .ofV
  case index t x i =>
    simp only [aopO]
    exact .k2 (o := fun g => opd g e x) (o' := fun g => opd g e i) fun _ _ => .ofV
  case typeAssert x _ t ok =>
    cases ok with
    | false => exact .no
    | true =>
      simp only [aopO]
      refine .k1 (o := fun g => opd g e x) fun v => ?_
      unfold aAssert
      split
      · exact .no
      · exact .no
      · split
        · split
          · exact .val
          · exact .no
        · exact .cond .val .no
        · exact .no
  case extract t i =>
    simp only [aopO]
    refine .k1 (o := fun g => opd g e t) fun v => ?_
    unfold aExtract
    split
    · exact .ofV
    · exact .no
  case call c =>
    cases c with
    | mk callee cargs argTypes =>
    simp only [aopO]
    cases callee with
    | builtin b =>
      cases ha : opds g e cargs.toList with
      | none => exact ⟨none, fun h hg => by dsimp only; rw [hg, ha]; rfl⟩
      | some args =>
        obtain ⟨x, hx⟩ := builtin0 (P := P) (g := g) (ts := argTypes.toList) (ty := o.type) (args := args) hc
        refine ⟨x, fun h hg => ?_⟩
        dsimp only at hx ⊢
        rw [hg, ha, ← hx h hg]
        rfl
    | _ => exact absurd hc (by simp)

/-- A block is made, of the operands alone. -/
def Free3 (g nx : Nat) (R : Hp → OR) : Prop := ∃ x : Option (AV × AO), (∀ v o, x = some (v, o) → rw o = true ∧ ∀ ρ V, VR ρ v V → ∃ l, ρ nx = some l) ∧ ∀ h : Hp, h.g = g → h.next = nx → R h = match x with
  | some (v, o) => .val v (h.new o)
  | none => .no

theorem Free3.no {g nx : Nat} : Free3 g nx fun _ => .no := ⟨none, (by intro _ _ h; cases h), fun _ _ _ => rfl⟩

theorem alloc3 {g nx : Nat} {t : TypeId} {z : AV} : Free3 g nx fun h => aAlloc t h z := by
  cases hz : z.cells with
  | none => exact ⟨none, (by intro _ _ h; cases h), fun h _ _ => by simp only [aAlloc, hz, aAlloc2]⟩
  | some l => exact ⟨some (.ptr nx 0, .cells l t false true), fun _ _ h => by injection h with h; injection h with h1 h; rw [← h, ← h1]; exact ⟨rfl, fun ρ V r => let ⟨l, e, _⟩ := r.ptr; ⟨l, e⟩⟩, fun h _ hn => by simp only [aAlloc, hz, aAlloc2, hn]⟩

theorem cls3 {e : Env} {o : Oper} {g nx : Nat} (hc : clsOf o.op = 3) : Free3 g nx fun h => aop P e h o := by
  unfold aop
  generalize o.op = op at hc
  cases op <;> simp only [clsOf] at hc <;> try (exact absurd hc (by decide))
  case alloc t =>
    simp only [aopO]
    cases zT P t with
    | none => exact .no
    | some z => exact alloc3
  case box t x =>
    simp only [aopO]
    cases hx : opd g e x with
    | none => exact ⟨none, (by intro _ _ h; cases h), fun h hg _ => by dsimp only; rw [hg, hx]; rfl⟩
    | some z =>
      obtain ⟨y, h1, h2⟩ := alloc3 (g := g) (nx := nx) (t := t) (z := z)
      exact ⟨y, h1, fun h hg hn => by dsimp only; rw [← h2 h hg hn, hg, hx]; rfl⟩
  case buildSlice t len ps =>
    simp only [aopO]
    cases hx : opParts g e ps.toList with
    | none => exact ⟨none, (by intro _ _ h; cases h), fun h hg _ => by dsimp only; rw [hg, hx]; rfl⟩
    | some vs =>
      have : Free3 g nx fun h => kT (aBuildSlice P h len vs) (P.underlying t) := by
        cases P.underlying t with
        | none => exact .no
        | some d =>
          show Free3 g nx fun h => aBuildSlice P h len vs d
          unfold aBuildSlice
          split
          · split
            · split
              · rename_i _ elem _ s _ _ z _
                cases hb : (Nat.ble (len * s) 16777216 && Nat.beq z.length s) with
                | false => exact .no
                | true =>
                  simp only [cond_true]
                  unfold aBuildSlice1
                  cases fillL (fun i => some (i * s, s)) (repL z len) vs with
                  | none => exact .no
                  | some l => exact ⟨some (.sl nx 0 len s true, .cells l elem false true), fun _ _ h => by injection h with h; injection h with h1 h; rw [← h, ← h1]; exact ⟨rfl, fun ρ V r => by simp only [VR] at r; obtain ⟨l, _, _, e, _⟩ := r; exact ⟨l, e⟩⟩, fun h _ hn => by simp only [hn]⟩
              · exact .no
            · exact .no
          · exact .no
      obtain ⟨y, h1, h2⟩ := this
      exact ⟨y, h1, fun h hg hn => by dsimp only; rw [← h2 h hg hn, hg, hx]; rfl⟩
  case call c =>
    exfalso
    cases c with
    | mk callee args argTypes =>
    cases callee <;> simp only [clsOf] at hc <;> try omega
    rename_i b
    cases b <;> simp [clsB] at hc

end cls

/-! Blocks that are made ahead of their turn. -/
section pend
variable {base : Bs Λ}

theorem getF_setF_dich {α : Type} (n k : Nat) : (∀ (t : Tr α) x, getF n (setF n t k x) k = some x) ∨ (∀ (t : Tr α) x, getF n (setF n t k x) k = none) := .inl fun t x => getF_setF n t k x

/-- A block that is there, but not yet told of. -/
structure Pd (ρ : Rho) (base : Bs Λ) (h : Hp) (w : World) (i : Nat) (o : AO) (l : Loc) : Prop where
  at_ : ρ i = some l
  rwo : rw o = true
  obj : ObjR ρ w l o
  low : base.n ≤ l.b
  lt : l.b < w.heap.size
  sep : ∀ b o' l', h.get b = some o' → rw o' = true → ρ b = some l' → l'.b ≠ l.b

theorem Pd.step {ρ ρ' : Rho} {h h' : Hp} {w w' : World} {i : Nat} {o : AO} {l : Loc} (p : Pd ρ base h w i o l) (s : Step ρ h w ρ' h' w') : Pd ρ' base h' w' i o l where
  at_ := s.sub _ _ p.at_
  rwo := p.rwo
  obj := p.obj.mono s.sub (s.frame l.b p.lt fun b o l' g r e => p.sep b o l' g r e)
  low := p.low
  lt := Nat.lt_of_lt_of_le p.lt s.size
  sep b o' l' g r e := by
    rcases s.img b o' l' g r e with h | ⟨b₀, o₀, l₀, g₀, r₀, e₀, h⟩
    · have := p.lt; omega
    · rw [← h]; exact p.sep b₀ o₀ l₀ g₀ r₀ e₀

theorem Pd.less {ρ : Rho} {h h' : Hp} {w : World} {i : Nat} {o : AO} {l : Loc} (p : Pd ρ base h w i o l) (hg : ∀ b o, h'.get b = some o → h.get b = some o) : Pd ρ base h' w i o l :=
  ⟨p.at_, p.rwo, p.obj, p.low, p.lt, fun b o' l' g r e => p.sep b o' l' (hg b o' g) r e⟩

theorem Rel.less {ρ : Rho} {h h' : Hp} {w : World} (r : Rel ρ base h w) (hg : ∀ b o, h'.get b = some o → h.get b = some o) (hd : ∀ b o, h'.get b = some o → b < h'.next) (hgg : h'.g = h.g) : Rel ρ base h' w :=
  ⟨fun b o l g e => r.obj b o l (hg b o g) e, fun b o l g => r.low b o l (hg b o g), fun b vs e z l g => r.ro b vs e z l (hg b _ g),
   fun b b' o o' l l' g g' => r.inj b b' o o' l l' (hg b o g) (hg b' o' g'), r.lt, hd, r.bs, fun g hgl => r.glob g (by rw [← hgg]; exact hgl), r.laid⟩

@[simp] theorem Hp.get_bump (h : Hp) (b : Nat) : h.bump.get b = h.get b := rfl
@[simp] theorem Hp.next_bump (h : Hp) : h.bump.next = h.next + 1 := rfl
@[simp] theorem Hp.g_bump (h : Hp) : h.bump.g = h.g := rfl

theorem Rel.bump {ρ : Rho} {h : Hp} {w : World} (r : Rel ρ base h w) : Rel ρ base h.bump w :=
  r.less (fun _ _ g => g) (fun b o g => Nat.lt_succ_of_lt (r.dom b o g)) rfl

/-- The same blocks; another counter. -/
def Hp.upto (h : Hp) (n : Nat) : Hp := ⟨h.t, n, h.g⟩
theorem Hp.get_upto (h : Hp) (n b : Nat) : (h.upto n).get b = h.get b := rfl
theorem Rel.upto {ρ : Rho} {h : Hp} {w : World} (r : Rel ρ base h w) {n : Nat} (hn : h.next ≤ n) : Rel ρ base (h.upto n) w :=
  r.less (fun _ _ g => g) (fun b o g => Nat.lt_of_lt_of_le (r.dom b o g) hn) rfl

/-- It is told of. -/
theorem Rel.absorb {ρ : Rho} {h : Hp} {w : World} {o : AO} {l : Loc} (r : Rel ρ base h w) (p : Pd ρ base h w (h.next + 1) o l) : Rel ρ base (h.bump.new o) w := by
  have old : ∀ j x, (h.bump.new o).get j = some x → (j = h.next + 1 ∧ x = o) ∨ (j ≠ h.next + 1 ∧ h.get j = some x) := by
    intro j x g
    by_cases n : j = h.bump.next
    · subst n
      exact .inl ⟨rfl, Hp.get_new_eq g⟩
    · rw [Hp.get_new_ne n] at g
      exact .inr ⟨n, g⟩
  refine ⟨?_, ?_, ?_, ?_, r.lt, ?_, r.bs, r.glob, r.laid⟩
  · intro j x k g e
    rcases old j x g with ⟨rfl, rfl⟩ | ⟨_, g⟩
    · rw [p.at_] at e; cases e; exact p.obj
    · exact r.obj j x k g e
  · intro j x k g rx e
    rcases old j x g with ⟨rfl, rfl⟩ | ⟨_, g⟩
    · rw [p.at_] at e; cases e; exact p.low
    · exact r.low j x k g rx e
  · intro j vs t z k g e
    rcases old j _ g with ⟨rfl, h⟩ | ⟨_, g⟩
    · have := p.rwo
      rw [← h] at this
      cases this
    · exact r.ro j vs t z k g e
  · intro j j' x x' k k' g g' rx rx' e e' hk
    rcases old j x g with ⟨rfl, rfl⟩ | ⟨n, g2⟩ <;> rcases old j' x' g' with ⟨rfl, rfl⟩ | ⟨n', g2'⟩
    · rfl
    · have e1 : some l = some k := p.at_.symm.trans e
      cases e1
      exact absurd hk.symm (p.sep j' x' k' g2' rx' e')
    · have e1 : some l = some k' := p.at_.symm.trans e'
      cases e1
      exact absurd hk (p.sep j x k g2 rx e)
    · exact r.inj j j' x x' k k' g2 g2' rx rx' e e' hk
  · intro j x g
    show j < h.next + 1 + 1
    rcases old j x g with ⟨rfl, _⟩ | ⟨_, g⟩
    · omega
    · have := r.dom j x g; omega

/-- It is not to be told of: its place is beyond. -/
theorem Rel.absorb0 {ρ : Rho} {h : Hp} {w : World} {o : AO} (r : Rel ρ base h w) (hn : ∀ (t : Tr AO) x, getF 22 (setF 22 t (h.next + 1) x) (h.next + 1) = none) : Rel ρ base (h.bump.new o) w := by
  refine r.bump.less (fun j x g => ?_) (fun j x g => ?_) rfl
  all_goals
    by_cases n : j = h.bump.next
    · subst n
      have : (h.bump.new o).get h.bump.next = none := hn h.t o
      rw [this] at g
      cases g
    · rw [Hp.get_new_ne n] at g
      first
        | exact g
        | (have := r.dom j x g; show j < h.next + 1 + 1; omega)

theorem Pd.absorb {ρ : Rho} {h : Hp} {w : World} {i : Nat} {o o' : AO} {l l' : Loc} (q : Pd ρ base h w i o' l') (p : Pd ρ base h w (h.next + 1) o l) (hne : l.b ≠ l'.b) : Pd ρ base (h.bump.new o) w i o' l' where
  at_ := q.at_
  rwo := q.rwo
  obj := q.obj
  low := q.low
  lt := q.lt
  sep b x k g r e := by
    by_cases n : b = h.bump.next
    · subst n
      have e1 : some l = some k := p.at_.symm.trans e
      cases e1
      exact hne
    · rw [Hp.get_new_ne n] at g
      exact q.sep b x k g r e

theorem Pd.absorb0 {ρ : Rho} {h : Hp} {w : World} {i : Nat} {o o' : AO} {l' : Loc} (q : Pd ρ base h w i o' l') (hn : ∀ (t : Tr AO) x, getF 22 (setF 22 t (h.next + 1) x) (h.next + 1) = none) : Pd ρ base (h.bump.new o) w i o' l' where
  at_ := q.at_
  rwo := q.rwo
  obj := q.obj
  low := q.low
  lt := q.lt
  sep b x k g r e := by
    by_cases n : b = h.bump.next
    · subst n
      have : (h.bump.new o).get h.bump.next = none := hn h.t o
      rw [this] at g
      cases g
    · rw [Hp.get_new_ne n] at g
      exact q.sep b x k g r e

end pend
end Go.Ev
