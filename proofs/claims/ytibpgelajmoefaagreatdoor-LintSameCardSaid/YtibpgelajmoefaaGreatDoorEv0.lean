/- The evaluator's data: abstract values, blocks, and the small finite maps that hold them. -/
import GoSem.Step
namespace Go.Ev

/-- Abstract values: ids of blocks in the place of addresses; a slice has no capacity, but may be clipped (its capacity is its length); a string is its length and its bytes as one number; a class: any number below b that leaves r by m. -/
inductive AV where
  | bool (b : Bool)
  | int (k : IntKind) (n : Int)
  | str (n v : Nat)
  | ptr (b o : Nat)
  | nilp
  | sl (b o n e : Nat) (clip : Bool)
  | nils
  | map (b : Nat)
  | nilm
  | fn (f : Fn) (first cap : List AV)
  | nilf
  | iface (t : Nat) (v : AV)
  | nili
  | agg (l : List AV)
  | tup (l : List AV)
  | cls (k : IntKind) (m r b : Nat)
  deriving Inhabited

/-- A finite map from numbers, as a tree. -/
inductive Tr (α : Type) where
  | lf
  | br (l : Tr α) (v : Option α) (r : Tr α)
  deriving Inhabited

variable {α : Type}

/-- What lies at a number; the first argument is not looked at. -/
noncomputable def getF (_ : Nat) : Tr α → Nat → Option α :=
  Tr.rec (motive := fun _ => Nat → Option α) (fun _ => none)
    (fun _ v _ ihl ihr k => Nat.rec (motive := fun _ => Option α) v (fun k' _ =>
      Bool.rec (motive := fun _ => Option α) (ihr (Nat.div k' 2)) (ihl (Nat.div k' 2)) (Nat.beq (Nat.mod k' 2) 0)) k)

/-- A tree that holds one thing. -/
noncomputable def mkT : Nat → Nat → α → Tr α :=
  Nat.rec (motive := fun _ => Nat → α → Tr α) (fun _ _ => .lf)
    (fun _ ih k x => Nat.rec (motive := fun _ => Tr α) (.br .lf (some x) .lf) (fun k' _ =>
      Bool.rec (motive := fun _ => Tr α) (.br .lf none (ih (Nat.div k' 2) x)) (.br (ih (Nat.div k' 2) x) none .lf) (Nat.beq (Nat.mod k' 2) 0)) k)

noncomputable def setF (_ : Nat) : Tr α → Nat → α → Tr α :=
  Tr.rec (motive := fun _ => Nat → α → Tr α) (fun k x => mkT (Nat.succ k) k x)
    (fun l v r ihl ihr k x => Nat.rec (motive := fun _ => Tr α) (.br l (some x) r) (fun k' _ =>
      Bool.rec (motive := fun _ => Tr α) (.br l v (ihr (Nat.div k' 2) x)) (.br (ihl (Nat.div k' 2) x) v r) (Nat.beq (Nat.mod k' 2) 0)) k)

theorem getF_lf (n k : Nat) : getF n (.lf : Tr α) k = none := rfl
theorem getF_br (n k : Nat) (l r : Tr α) (v : Option α) : getF n (.br l v r) k = match k with
    | 0 => v
    | k' + 1 => if k' % 2 = 0 then getF n l (k' / 2) else getF n r (k' / 2) := by
  cases k with
  | zero => rfl
  | succ k' =>
    show Bool.rec (motive := fun _ => Option α) (getF n r (k' / 2)) (getF n l (k' / 2)) (Nat.beq (k' % 2) 0) = _
    cases hb : Nat.beq (k' % 2) 0 with
    | true => simp [Nat.eq_of_beq_eq_true hb]
    | false => have : ¬ k' % 2 = 0 := Nat.ne_of_beq_eq_false hb; simp [this]

theorem setF_br (n k : Nat) (l r : Tr α) (v : Option α) (x : α) : setF n (.br l v r) k x = match k with
    | 0 => .br l (some x) r
    | k' + 1 => if k' % 2 = 0 then .br (setF n l (k' / 2) x) v r else .br l v (setF n r (k' / 2) x) := by
  cases k with
  | zero => rfl
  | succ k' =>
    show Bool.rec (motive := fun _ => Tr α) (.br l v (setF n r (k' / 2) x)) (.br (setF n l (k' / 2) x) v r) (Nat.beq (k' % 2) 0) = _
    cases hb : Nat.beq (k' % 2) 0 with
    | true => simp [Nat.eq_of_beq_eq_true hb]
    | false => have : ¬ k' % 2 = 0 := Nat.ne_of_beq_eq_false hb; simp [this]

theorem mkT_succ (m k : Nat) (x : α) : mkT (m + 1) k x = match k with
    | 0 => .br .lf (some x) .lf
    | k' + 1 => if k' % 2 = 0 then .br (mkT m (k' / 2) x) none .lf else .br .lf none (mkT m (k' / 2) x) := by
  cases k with
  | zero => rfl
  | succ k' =>
    show Bool.rec (motive := fun _ => Tr α) (.br .lf none (mkT m (k' / 2) x)) (.br (mkT m (k' / 2) x) none .lf) (Nat.beq (k' % 2) 0) = _
    cases hb : Nat.beq (k' % 2) 0 with
    | true => simp [Nat.eq_of_beq_eq_true hb]
    | false => have : ¬ k' % 2 = 0 := Nat.ne_of_beq_eq_false hb; simp [this]

theorem getF_mkT (n : Nat) : ∀ (m k : Nat) (x : α), k < m → getF n (mkT m k x) k = some x
  | 0, _, _, h => absurd h (Nat.not_lt_zero _)
  | m + 1, k, x, h => by
    rw [mkT_succ]
    cases k with
    | zero => simp [getF_br]
    | succ k =>
      simp only []
      split
      · rename_i hk
        rw [getF_br]
        simp only [hk, if_true]
        exact getF_mkT n m _ x (by omega)
      · rename_i hk
        rw [getF_br]
        simp only [hk, if_false]
        exact getF_mkT n m _ x (by omega)

theorem getF_mkT_ne (n : Nat) : ∀ (m k j : Nat) (x : α), j ≠ k → getF n (mkT m k x) j = none
  | 0, _, _, _, _ => rfl
  | m + 1, k, j, x, h => by
    rw [mkT_succ]
    cases k with
    | zero =>
      cases j with
      | zero => exact absurd rfl h
      | succ j => simp [getF_br, getF_lf]
    | succ k =>
      simp only []
      split
      · rename_i hk
        rw [getF_br]
        cases j with
        | zero => rfl
        | succ j =>
          simp only []
          split
          · exact getF_mkT_ne n m _ _ x (by omega)
          · rfl
      · rename_i hk
        rw [getF_br]
        cases j with
        | zero => rfl
        | succ j =>
          simp only []
          split
          · rfl
          · exact getF_mkT_ne n m _ _ x (by omega)

theorem getF_setF_ne (n : Nat) : ∀ (t : Tr α) (j k : Nat) (x : α), j ≠ k → getF n (setF n t k x) j = getF n t j
  | .lf, j, k, x, h => getF_mkT_ne n (Nat.succ k) k j x h
  | .br l v r, j, k, x, h => by
    rw [setF_br]
    cases k with
    | zero =>
      cases j with
      | zero => exact absurd rfl h
      | succ j => simp [getF_br]
    | succ k =>
      simp only []
      split
      · rename_i hk
        rw [getF_br, getF_br]
        cases j with
        | zero => rfl
        | succ j =>
          simp only []
          split
          · exact getF_setF_ne n l _ _ x (by omega)
          · rfl
      · rename_i hk
        rw [getF_br, getF_br]
        cases j with
        | zero => rfl
        | succ j =>
          simp only []
          split
          · rfl
          · exact getF_setF_ne n r _ _ x (by omega)

theorem getF_setF (n : Nat) : ∀ (t : Tr α) (k : Nat) (x : α), getF n (setF n t k x) k = some x
  | .lf, k, x => getF_mkT n (Nat.succ k) k x (Nat.lt_succ_self k)
  | .br l v r, k, x => by
    rw [setF_br]
    cases k with
    | zero => simp [getF_br]
    | succ k =>
      simp only []
      split
      · rename_i hk
        rw [getF_br]
        simp only [hk, if_true]
        exact getF_setF n l _ x
      · rename_i hk
        rw [getF_br]
        simp only [hk, if_false]
        exact getF_setF n r _ x

theorem getF_setF_eq (n : Nat) (t : Tr α) (k : Nat) (x y : α) (h : getF n (setF n t k x) k = some y) : y = x := by
  rw [getF_setF] at h
  exact (Option.some.inj h).symm

end Go.Ev
