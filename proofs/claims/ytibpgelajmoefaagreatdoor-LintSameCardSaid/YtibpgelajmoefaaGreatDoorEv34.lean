/- The evaluator with a table of calls that are known: calls of bools, numbers and strings that make nothing. -/
import Derived.Test.YtibpgelajmoefaaGreatDoorEv26
import Derived.Test.YtibpgelajmoefaaGreatDoorEv33
namespace Go.Ev
variable {Λ : Laid}

/-- Calls that are known: a function's number, and what it answers to which arguments. -/
abbrev Tb := List (Nat × List (List AV × AV))

noncomputable def look2 (args : List AV) (l : List (List AV × AV)) : Option AV :=
  List.rec (motive := fun _ => Option AV) none (fun x _ ih => bif eqAVs x.1 args then some x.2 else ih) l
noncomputable def look (tb : Tb) (g : Nat) (args : List AV) : Option AV :=
  List.rec (motive := fun _ => Option AV) none (fun x _ ih => bif Nat.beq x.1 g then look2 args x.2 else ih) tb

noncomputable def memo2 (h : Hp) (o : Out) : Option AV → Out
  | some v => .ret v h
  | none => o
noncomputable def memoCall (P : Program) (tb : Tb) (rec : Req → Out) (args : List AV) (h : Hp) : AV → Out
  | .fn (.func g) [] [] => memo2 h (evCall P rec args h (.fn (.func g) [] [])) (look tb g args)
  | f => evCall P rec args h f
noncomputable def evStepM (P : Program) (tb : Tb) (rec : Req → Out) : Req → Out
  | .code c e h d r => evCode P rec e h d r c
  | .call f args h => memoCall P tb rec args h f
noncomputable def evM (P : Program) (tb : Tb) (n : Nat) : Req → Out :=
  Nat.rec (motive := fun _ => Req → Out) (fun _ => .no) (fun _ ih => evStepM P tb ih) n

theorem look2_mem {args : List AV} {v : AV} : ∀ {l : List (List AV × AV)}, look2 args l = some v → (args, v) ∈ l
  | [], h => by cases h
  | (a, u) :: l, h => by
    change (bif eqAVs a args then some u else look2 args l) = some v at h
    cases he : eqAVs a args with
    | true =>
      rw [he] at h
      injection h with h
      rw [eqAVs_eq he, h]
      exact .head _
    | false => rw [he] at h; exact .tail _ (look2_mem h)
theorem look_mem {g : Nat} {args : List AV} {v : AV} : ∀ {tb : Tb}, look tb g args = some v → ∃ l, (g, l) ∈ tb ∧ (args, v) ∈ l
  | [], h => by cases h
  | (k, l) :: tb, h => by
    change (bif Nat.beq k g then look2 args l else look tb g args) = some v at h
    cases he : Nat.beq k g with
    | true =>
      rw [he] at h
      rw [Nat.eq_of_beq_eq_true he]
      exact ⟨l, .head _, look2_mem h⟩
    | false =>
      rw [he] at h
      obtain ⟨l', h1, h2⟩ := look_mem (tb := tb) h
      exact ⟨l', .tail _ h1, h2⟩

/-- A call that makes nothing, from whatever blocks. -/
def Pure (Λ : Laid) (P : Program) (g : Nat) (args : List AV) (v : AV) : Prop := ∀ h, CallOk Λ P (.fn (.func g) [] []) args h v h
def TbOk (Λ : Laid) (P : Program) (tb : Tb) : Prop := ∀ x ∈ tb, ∀ y ∈ x.2, Pure Λ P x.1 y.1 y.2

theorem TbOk.nil {P : Program} : TbOk Λ P [] := fun x hx => by cases hx
theorem Known.nil {P : Program} {g : Nat} : ∀ y ∈ ([] : List (List AV × AV)), Pure Λ P g y.1 y.2 := fun y hy => by cases hy
theorem Known.cons {P : Program} {g : Nat} {args : List AV} {v : AV} {l : List (List AV × AV)} (h : Pure Λ P g args v) (t : ∀ y ∈ l, Pure Λ P g y.1 y.2) : ∀ y ∈ (args, v) :: l, Pure Λ P g y.1 y.2 := fun y hy => by
  cases hy with
  | head => exact h
  | tail _ hy => exact t y hy
theorem TbOk.cons {P : Program} {g : Nat} {l : List (List AV × AV)} {tb : Tb} (h : ∀ y ∈ l, Pure Λ P g y.1 y.2) (t : TbOk Λ P tb) : TbOk Λ P ((g, l) :: tb) := fun x hx => by
  cases hx with
  | head => exact h
  | tail _ hx => exact t x hx

theorem memo_inv {P : Program} {tb : Tb} {rec : Req → Out} {f : AV} {args : List AV} {h h' : Hp} {v : AV} (he : memoCall P tb rec args h f = .ret v h') :
    (∃ g, f = .fn (.func g) [] [] ∧ h' = h ∧ ∃ l, (g, l) ∈ tb ∧ (args, v) ∈ l) ∨ evCall P rec args h f = .ret v h' := by
  unfold memoCall at he
  split at he
  · rename_i g
    cases hl : look tb g args with
    | some u =>
      rw [hl] at he
      injection he with e1 e2
      subst e1 e2
      exact .inl ⟨g, rfl, rfl, look_mem hl⟩
    | none => rw [hl] at he; exact .inr he
  · exact .inr he

theorem evM_le {P : Program} {tb : Tb} : ∀ n, EvLe (evM P tb n)
  | 0 => ⟨(fun c e h d r x e' h' d' he => by cases he), (fun f a h v h' he => by cases he)⟩
  | n + 1 => ⟨(fun c e h d r x e' h' d' he => evCode_le (evM_le n) he), (fun f a h v h' he => by
    rcases memo_inv he with ⟨_, _, rfl, _⟩ | he
    · exact Nat.le_refl _
    · exact evCall_le (evM_le n) he)⟩
theorem evM_g {P : Program} {tb : Tb} : ∀ n, EvG (evM P tb n)
  | 0 => ⟨(fun c e h d r x e' h' d' he => by cases he), (fun f a h v h' he => by cases he)⟩
  | n + 1 => ⟨(fun c e h d r x e' h' d' he => evCode_g (evM_g n) he), (fun f a h v h' he => by
    rcases memo_inv he with ⟨_, _, rfl, _⟩ | he
    · rfl
    · exact evCall_g (evM_g n) he)⟩

/-- The evaluator with a table is right. -/
theorem evM_ok {P : Program} {tb : Tb} (hP : ProgOk Λ P) (ht : TbOk Λ P tb) : ∀ n, CodeRuns Λ P (evM P tb n) ∧ CallRuns Λ P (evM P tb n)
  | 0 => ⟨(fun c e h d r x e' h' d' he => by cases he), (fun f a h v h' he => by cases he)⟩
  | n + 1 =>
    have ih := evM_ok hP ht n
    ⟨(fun c e h d r x e' h' d' he ρ base w b t ds k cs T hT hc hr hk hi hf => code_run (evM_g n) (evM_le n) ih.1 ih.2 hP.draw he hT hc hr hk hi hf), (fun f a h v h' he => by
      rcases memo_inv he with ⟨g, rfl, rfl, l, h1, h2⟩ | he
      · exact ht _ h1 _ h2 _
      · exact call_run hP (evM_le n) ih.1 ih.2 he)⟩

mutual
def flatA : AV → Bool
  | .bool _ => true
  | .int _ _ => true
  | .str _ _ => true
  | .agg l => flatL l
  | .tup l => flatL l
  | _ => false
def flatL : List AV → Bool
  | [] => true
  | a :: l => flatA a && flatL l
end
mutual
theorem VR.flat {ρ ρ' : Rho} : ∀ {v : AV} {V : Value}, flatA v = true → VR ρ v V → VR ρ' v V
  | .bool _, _, _, r => r
  | .int _ _, _, _, r => r
  | .str _ _, _, _, r => by simp only [VR] at r ⊢; exact r
  | .agg _, _, h, r => by simp only [VR] at r ⊢; obtain ⟨C, e, r, s⟩ := r; exact ⟨C, e, VRL.flat h r, s⟩
  | .tup _, _, h, r => by simp only [VR] at r ⊢; obtain ⟨C, e, r⟩ := r; exact ⟨C, e, VRL.flat h r⟩
theorem VRL.flat {ρ ρ' : Rho} : ∀ {l : List AV} {L : List Value}, flatL l = true → VRL ρ l L → VRL ρ' l L
  | [], _, _, r => r
  | _ :: _, _, h, r => by
    simp only [VRL] at r ⊢
    simp only [flatL, Bool.and_eq_true] at h
    obtain ⟨V, L', e, a, b⟩ := r
    exact ⟨V, L', e, VR.flat h.1 a, VRL.flat h.2 b⟩
end

/-- What is laid lies there, below a bound. -/
structure RoRel (ρ : Rho) (n : Nat) (h : Hp) (w : World) : Prop where
  obj : ∀ b o l, h.get b = some o → ρ b = some l → ObjR ρ w l o
  lt : ∀ b l, ρ b = some l → l.b < n
  glob : ∀ g, g < h.g → ∃ c, ρ g = some ⟨g, 0, c⟩
  fresh : ∀ b, h.next ≤ b → ρ b = none

/-- Blocks that are never written. -/
structure RoHp (h : Hp) : Prop where
  ro : ∀ b o, h.get b = some o → rw o = false
  dom : ∀ b o, h.get b = some o → b < h.next

def laidOf (h : Hp) : Laid where
  ok n w := ∃ ρ, RoRel ρ n h w
  keep n w w' := fun ⟨ρ, r⟩ hk => ⟨ρ, fun b o l g e => (r.obj b o l g e).mono (.refl _) (hk _ (r.lt b l e)), r.lt, r.glob, r.fresh⟩

theorem RoRel.rel {ρ : Rho} {hG : Hp} {base : Bs (laidOf hG)} {w : World} (r : RoRel ρ base.n hG w) (hr : RoHp hG) (hb : base.n ≤ w.heap.size) : Rel ρ base hG w where
  obj := r.obj
  low b o l g q _ := by rw [hr.ro b o g] at q; cases q
  ro b vs e z l _ e' := r.lt b l e'
  inj b b' o o' l l' g _ q := by rw [hr.ro b o g] at q; cases q
  lt b l e := Nat.lt_of_lt_of_le (r.lt b l e) hb
  dom := hr.dom
  bs := hb
  glob := r.glob
  laid := ⟨ρ, r⟩

theorem Res.pure {hG : Hp} (hr : RoHp hG) {base : Bs (laidOf hG)} {ρ₀ ρ : Rho} {h h' : Hp} {w w' : World} {v : AV} {V : Value} (hv : flatA v = true) (r : Rel ρ base h w) (q : Res ρ₀ base hG w v h' V w') : Res ρ base h w v h V w' := by
  obtain ⟨ρ', q1, q2, q3⟩ := q
  have hsame : ∀ B, B < w.heap.size → w'.heap[B]? = w.heap[B]? := fun B hB => q3.frame B hB fun b o l g rx _ => by rw [hr.ro b o g] at rx; cases rx
  refine ⟨ρ, q1.flat hv, ⟨fun b o l g e => (r.obj b o l g e).mono (.refl _) (hsame _ (r.lt b l e)), r.low, r.ro, r.inj, fun b l e => Nat.lt_of_lt_of_le (r.lt b l e) q3.size, r.dom, Nat.le_trans r.bs q3.size, r.glob,
    (laidOf hG).keep _ _ _ r.laid fun B hB => hsame B (Nat.lt_of_lt_of_le hB r.bs)⟩, ⟨.refl _, fun _ _ => rfl, Nat.le_refl _, rfl, q3.os, q3.tape, q3.output, q3.size, q3.loops, fun B hB _ => hsame B hB, fun b o l g rx e => .inr ⟨b, o, l, g, rx, e, rfl⟩⟩⟩

/-- A call that was run on what is laid alone runs on whatever is there. -/
theorem pure_of {hG : Hp} (hr : RoHp hG) {P : Program} {g : Nat} {args : List AV} {v : AV} {h' : Hp} (ha : flatL args = true) (hv : flatA v = true) (hc : CallOk (laidOf hG) P (.fn (.func g) [] []) args hG v h') : Pure (laidOf hG) P g args v := by
  intro h F A w ρ base hF hA r hf
  obtain ⟨ρ₀, r₀⟩ := r.laid
  have hF' : VR ρ₀ (.fn (.func g) [] []) F := by
    simp only [VR, FnR, VRL] at hF ⊢
    exact hF
  obtain ⟨N, w₁, hrun, hN, hnr⟩ := hc F A w ρ₀ base hF' (hA.flat ha) (r₀.rel hr r.bs) fun i hi _ => r₀.fresh i hi
  refine ⟨N, w₁, hrun, ?_, hnr⟩
  cases N with
  | value V => exact Res.pure hr hv r hN
  | enter f a =>
    intro kind cs hk
    obtain ⟨y, V, w', z1, z2, z3, z4⟩ := hN kind cs hk
    exact ⟨y, V, w', z1, z2, z3, Res.pure hr hv r z4⟩
  | round l f t a b => exact absurd rfl (hnr rfl l f t a b)
  | _ => exact hN.elim

/-- Did a call answer this? -/
def isV (v : AV) : Out → Bool
  | .ret u _ => eqAV u v
  | _ => false
theorem isV_inv {v : AV} {o : Out} (h : isV v o = true) : ∃ h', o = .ret v h' := by
  cases o with
  | ret u h' => exact ⟨h', by rw [eqAV_eq h]⟩
  | _ => cases h

theorem pure_ev {hG : Hp} (hr : RoHp hG) {P : Program} {tb : Tb} (hP : ProgOk (laidOf hG) P) (ht : TbOk (laidOf hG) P tb) {g : Nat} {args : List AV} {v : AV} (n : Nat) (ha : flatL args = true) (hv : flatA v = true) (he : isV v (evM P tb n (.call (.fn (.func g) [] []) args hG)) = true) : Pure (laidOf hG) P g args v := by
  obtain ⟨h', he⟩ := isV_inv he
  exact pure_of hr ha hv ((evM_ok hP ht n).2 _ _ _ _ _ he)

end Go.Ev
