/- The relation between the evaluator's blocks and the model's memory. -/
import Derived.Test.YtibpgelajmoefaaGreatDoorEv1
import Derived.Control
namespace Go.Ev

/-- Where a block lies: the model's block, the first cell there, and how many cells that block has. -/
structure Loc where
  b : Nat
  o : Nat
  c : Nat

abbrev Rho := Nat → Option Loc

/-- Values that one cell may hold. -/
def scalar : Value → Prop
  | .agg _ => False
  | .tuple _ => False
  | _ => True

def FnR (ρ : Rho) : Fn → Fn → Prop
  | .func f, F => F = .func f
  | .yield l, F => ∃ a, ρ l = some a ∧ F = .yield a.b
  | _, _ => False

mutual
def VR (ρ : Rho) : AV → Value → Prop
  | .bool b, V => V = .bool b
  | .int k n, V => V = .int k n
  | .str n v, V => ∃ s : ByteArray, V = .string s ∧ s.data.toList.length = n ∧ bn s.data.toList = v
  | .ptr b o, V => ∃ l, ρ b = some l ∧ V = .pointer (some ⟨l.b, l.o + o, none⟩)
  | .nilp, V => V = .pointer none
  | .sl b o n e clip, V => ∃ l cap p, ρ b = some l ∧ V = .slice (some ⟨l.b, p, none⟩) n cap ∧ n ≤ cap ∧ p + cap * e ≤ l.c ∧ (clip = true → cap = n) ∧ (n ≠ 0 ∨ o = 0 → p = l.o + o)
  | .nils, V => V = .slice none 0 0
  | .map b, V => ∃ l, ρ b = some l ∧ V = .map (some l.b)
  | .nilm, V => V = .map none
  | .fn f a c, V => ∃ F A C, V = .func F A C ∧ FnR ρ f F ∧ VRL ρ a A.toList ∧ VRL ρ c C.toList
  | .nilf, V => V = .nilFunc
  | .iface t v, V => ∃ W, V = .iface t W ∧ VR ρ v W
  | .nili, V => V = .nilIface
  | .agg l, V => ∃ C, V = .agg C ∧ VRL ρ l C.toList ∧ ∀ X ∈ C.toList, scalar X
  | .tup l, V => ∃ C, V = .tuple C ∧ VRL ρ l C.toList
  | .cls k m r b, V => ∃ n : Nat, V = .int k (.ofNat n) ∧ n % m = r ∧ n < b
def VRL (ρ : Rho) : List AV → List Value → Prop
  | [], L => L = []
  | v :: l, L => ∃ V L', L = V :: L' ∧ VR ρ v V ∧ VRL ρ l L'
end

/-- One map is another one, and more. -/
def Sub (ρ ρ' : Rho) : Prop := ∀ b l, ρ b = some l → ρ' b = some l

theorem Sub.refl (ρ : Rho) : Sub ρ ρ := fun _ _ h => h
theorem Sub.trans {ρ ρ' ρ'' : Rho} (h : Sub ρ ρ') (h' : Sub ρ' ρ'') : Sub ρ ρ'' := fun b l e => h' b l (h b l e)

theorem FnR.mono {ρ ρ' : Rho} (h : Sub ρ ρ') {f F : Fn} (r : FnR ρ f F) : FnR ρ' f F := by
  cases f <;> simp only [FnR] at r ⊢
  case func => exact r
  case yield l => obtain ⟨a, e, r⟩ := r; exact ⟨a, h _ _ e, r⟩

mutual
theorem VR.mono {ρ ρ' : Rho} (h : Sub ρ ρ') : ∀ {v : AV} {V : Value}, VR ρ v V → VR ρ' v V
  | .bool _, _, r => r
  | .int _ _, _, r => r
  | .str _ _, _, r => by simp only [VR] at r ⊢; exact r
  | .ptr _ _, _, r => by simp only [VR] at r ⊢; obtain ⟨l, e, r⟩ := r; exact ⟨l, h _ _ e, r⟩
  | .nilp, _, r => r
  | .sl _ _ _ _ _, _, r => by simp only [VR] at r ⊢; obtain ⟨l, c, p, e, r⟩ := r; exact ⟨l, c, p, h _ _ e, r⟩
  | .nils, _, r => r
  | .map _, _, r => by simp only [VR] at r ⊢; obtain ⟨l, e, r⟩ := r; exact ⟨l, h _ _ e, r⟩
  | .nilm, _, r => r
  | .fn _ _ _, _, r => by
    simp only [VR] at r ⊢
    obtain ⟨F, A, C, e, f, a, c⟩ := r
    exact ⟨F, A, C, e, f.mono h, VRL.mono h a, VRL.mono h c⟩
  | .nilf, _, r => r
  | .iface _ _, _, r => by simp only [VR] at r ⊢; obtain ⟨W, e, r⟩ := r; exact ⟨W, e, VR.mono h r⟩
  | .nili, _, r => r
  | .agg _, _, r => by simp only [VR] at r ⊢; obtain ⟨C, e, r, s⟩ := r; exact ⟨C, e, VRL.mono h r, s⟩
  | .tup _, _, r => by simp only [VR] at r ⊢; obtain ⟨C, e, r⟩ := r; exact ⟨C, e, VRL.mono h r⟩
  | .cls _ _ _ _, _, r => by simp only [VR] at r ⊢; exact r
theorem VRL.mono {ρ ρ' : Rho} (h : Sub ρ ρ') : ∀ {l : List AV} {L : List Value}, VRL ρ l L → VRL ρ' l L
  | [], _, r => r
  | _ :: _, _, r => by
    simp only [VRL] at r ⊢
    obtain ⟨V, L', e, a, b⟩ := r
    exact ⟨V, L', e, VR.mono h a, VRL.mono h b⟩
end

section lists
variable {ρ : Rho}
theorem VRL.length : ∀ {l : List AV} {L : List Value}, VRL ρ l L → L.length = l.length
  | [], _, r => by simp only [VRL] at r; rw [r]; rfl
  | _ :: _, _, r => by
    simp only [VRL] at r
    obtain ⟨V, L', rfl, _, r⟩ := r
    simp [r.length]
theorem VRL.nil : VRL ρ [] [] := by simp only [VRL]
theorem VRL.cons {v : AV} {V : Value} {l : List AV} {L : List Value} (a : VR ρ v V) (b : VRL ρ l L) : VRL ρ (v :: l) (V :: L) := by
  simp only [VRL]; exact ⟨V, L, rfl, a, b⟩
theorem VRL.append : ∀ {l l' : List AV} {L L' : List Value}, VRL ρ l L → VRL ρ l' L' → VRL ρ (l ++ l') (L ++ L')
  | [], _, _, _, r, r' => by simp only [VRL] at r; subst r; exact r'
  | _ :: _, _, _, _, r, r' => by
    simp only [VRL] at r
    obtain ⟨V, L', rfl, a, r⟩ := r
    exact .cons a (r.append r')
theorem VRL.get : ∀ {l : List AV} {L : List Value} (i : Nat) (v : AV), VRL ρ l L → l[i]? = some v → ∃ V, L[i]? = some V ∧ VR ρ v V
  | [], _, i, v, _, h => by simp at h
  | x :: l, _, i, v, r, h => by
    simp only [VRL] at r
    obtain ⟨V, L', rfl, a, r⟩ := r
    cases i with
    | zero => simp at h; subst h; exact ⟨V, rfl, a⟩
    | succ i => simp at h; simpa using r.get i v h
theorem VRL.take : ∀ {l : List AV} {L : List Value} (n : Nat), VRL ρ l L → VRL ρ (l.take n) (L.take n)
  | _, _, 0, _ => by simpa using VRL.nil
  | [], _, n + 1, r => by simp only [VRL] at r; subst r; simpa using VRL.nil
  | x :: l, _, n + 1, r => by
    simp only [VRL] at r
    obtain ⟨V, L', rfl, a, r⟩ := r
    simpa using VRL.cons a (r.take n)
theorem VRL.drop : ∀ {l : List AV} {L : List Value} (n : Nat), VRL ρ l L → VRL ρ (l.drop n) (L.drop n)
  | _, _, 0, r => by simpa using r
  | [], _, n + 1, r => by simp only [VRL] at r; subst r; simpa using VRL.nil
  | x :: l, _, n + 1, r => by
    simp only [VRL] at r
    obtain ⟨V, L', rfl, a, r⟩ := r
    simpa using r.drop n
theorem VRL.of_get : ∀ {l : List AV} {L : List Value}, L.length = l.length → (∀ (i : Nat) (v : AV), l[i]? = some v → ∃ V, L[i]? = some V ∧ VR ρ v V) → VRL ρ l L
  | [], L, h, _ => by have := List.eq_nil_of_length_eq_zero h; subst this; exact .nil
  | v :: l, [], h, _ => by simp at h
  | v :: l, V :: L, h, g => by
    obtain ⟨V', e, a⟩ := g 0 v rfl
    simp at e
    subst e
    exact .cons a (.of_get (by simpa using h) fun i v hv => by simpa using g (i + 1) v (by simpa using hv))
end lists

/-- The frame's slots. -/
def EnvR (ρ : Rho) (e : Env) (tmps : Array Value) : Prop := ∀ t v, Env.get e t = some v → VR ρ v (tmps.getD t undef)

theorem EnvR.mono {ρ ρ' : Rho} (h : Sub ρ ρ') {e : Env} {tmps : Array Value} (r : EnvR ρ e tmps) : EnvR ρ' e tmps := fun t v g => (r t v g).mono h

theorem EnvR.lf {ρ : Rho} {tmps : Array Value} : EnvR ρ .lf tmps := fun t v g => by simp [Env.get, getF_lf] at g

theorem EnvR.set {ρ : Rho} {e : Env} {tmps : Array Value} (r : EnvR ρ e tmps) {d : Nat} {v : AV} {V : Value} (hd : d < tmps.size) (hv : VR ρ v V) :
    EnvR ρ (setF 11 e d v) (tmps.setIfInBounds d V) := by
  intro t u g
  by_cases h : t = d
  · subst h
    have := getF_setF_eq 11 e t v u g
    subst this
    simpa [Array.getD_eq_getD_getElem?, hd] using hv
  · have g' : Env.get e t = some u := by rw [← g]; exact (getF_setF_ne 11 e t d v h).symm
    have := r t u g'
    rwa [show (tmps.setIfInBounds d V).getD t undef = tmps.getD t undef by
      simp [Array.getD_eq_getD_getElem?, Array.getElem?_setIfInBounds_ne (Ne.symm h)]]

end Go.Ev
