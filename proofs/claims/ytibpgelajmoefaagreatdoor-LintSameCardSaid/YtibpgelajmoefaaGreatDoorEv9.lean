/- Operators, conversions, places, pieces. -/
import Derived.Test.YtibpgelajmoefaaGreatDoorEv8
namespace Go.Ev
variable {Λ : Laid}

section ops
variable {P : Program} {ρ : Rho} {base : Bs Λ} {h : Hp} {w : World}

theorem binOp_eql {t : TypeId} {X Y : Value} (h1 : ∀ k a j b, X = .int k a → Y = .int j b → False) (h2 : ∀ s s', X = .string s → Y = .string s' → False) (h3 : ∀ k a, X ≠ .float k a) (h4 : ∀ k a b, X ≠ .complex k a b) :
    binOp .eql t X Y = (do pure (.bool (← Op.equal t X Y))) ∧ binOp .neq t X Y = (do pure (.bool (!(← Op.equal t X Y)))) := by
  cases X with
  | float k a => exact absurd rfl (h3 k a)
  | complex k a b => exact absurd rfl (h4 k a b)
  | int k a => cases Y with
    | int j b => exact (h1 _ _ _ _ rfl rfl).elim
    | _ => exact ⟨rfl, rfl⟩
  | string s => cases Y with
    | string s' => exact (h2 _ _ rfl rfl).elim
    | _ => exact ⟨rfl, rfl⟩
  | _ => exact ⟨rfl, rfl⟩

theorem VR.noFloat {v : AV} {V : Value} (r : VR ρ v V) : (∀ k a, V ≠ .float k a) ∧ (∀ k a b, V ≠ .complex k a b) := by
  cases v <;> simp only [VR] at r
  case str => obtain ⟨_, rfl, _⟩ := r; exact ⟨by simp, by simp⟩
  case ptr => obtain ⟨_, _, rfl⟩ := r; exact ⟨by simp, by simp⟩
  case sl => obtain ⟨_, _, _, _, rfl, _⟩ := r; exact ⟨by simp, by simp⟩
  case map => obtain ⟨_, _, rfl⟩ := r; exact ⟨by simp, by simp⟩
  case fn => obtain ⟨_, _, _, rfl, _⟩ := r; exact ⟨by simp, by simp⟩
  case iface => obtain ⟨_, rfl, _⟩ := r; exact ⟨by simp, by simp⟩
  case agg => obtain ⟨_, rfl, _⟩ := r; exact ⟨by simp, by simp⟩
  case tup => obtain ⟨_, rfl, _⟩ := r; exact ⟨by simp, by simp⟩
  case cls => obtain ⟨_, rfl, _⟩ := r; exact ⟨by simp, by simp⟩
  all_goals subst r; exact ⟨by simp, by simp⟩

theorem VR.int_inv {v : AV} {k : IntKind} {n : Int} (hc : ∀ k m r b, v = .cls k m r b → False) (r : VR ρ v (.int k n)) : v = .int k n := by
  cases v <;> simp only [VR] at r
  case int => injection r with a b; rw [a, b]
  case cls => exact (hc _ _ _ _ rfl).elim
  all_goals first | (cases r; done) | (obtain ⟨_, h, _⟩ := r; cases h; done) | (obtain ⟨_, _, h⟩ := r; cases h; done) | (obtain ⟨_, _, _, h, _⟩ := r; cases h; done) | (obtain ⟨_, _, _, _, h, _⟩ := r; cases h; done)

theorem VR.string_inv {v : AV} {s : ByteArray} (r : VR ρ v (.string s)) : ∃ n m, v = .str n m := by
  cases v <;> simp only [VR] at r
  case str n m => exact ⟨n, m, rfl⟩
  all_goals first | (cases r; done) | (obtain ⟨_, h, _⟩ := r; cases h; done) | (obtain ⟨_, _, h⟩ := r; cases h; done) | (obtain ⟨_, _, _, h, _⟩ := r; cases h; done) | (obtain ⟨_, _, _, _, h, _⟩ := r; cases h; done)

theorem VR.nili_inv {v : AV} (r : VR ρ v .nilIface) : v = .nili := by
  cases v <;> simp only [VR] at r
  case nili => rfl
  all_goals first | (cases r; done) | (obtain ⟨_, h, _⟩ := r; cases h; done) | (obtain ⟨_, _, h⟩ := r; cases h; done) | (obtain ⟨_, _, _, h, _⟩ := r; cases h; done) | (obtain ⟨_, _, _, _, h, _⟩ := r; cases h; done)

theorem VR.agg_inv {v : AV} {C : Array Value} (r : VR ρ v (.agg C)) : ∃ l, v = .agg l := by
  cases v <;> simp only [VR] at r
  case agg l => exact ⟨l, rfl⟩
  all_goals first | (cases r; done) | (obtain ⟨_, h, _⟩ := r; cases h; done) | (obtain ⟨_, _, h⟩ := r; cases h; done) | (obtain ⟨_, _, _, h, _⟩ := r; cases h; done) | (obtain ⟨_, _, _, _, h, _⟩ := r; cases h; done)

theorem eqGuard_plain {op : BinOp} {t : TypeId} {xo yo : Operand} {X Y : Value} (h1 : X = .nilIface → Y = .nilIface → False) (h2 : ∀ C D, X = .agg C → Y = .agg D → False) : (eqGuard op t xo yo X Y).run P w = .ok () w := by
  cases X with
  | nilIface => cases Y with
    | nilIface => exact (h1 rfl rfl).elim
    | _ => cases op <;> rfl
  | agg C => cases Y with
    | agg D => exact (h2 _ _ rfl rfl).elim
    | _ => cases op <;> rfl
  | _ => cases op <;> rfl

theorem eqGuard_nil {op : BinOp} {t : TypeId} {xo yo : Operand} (h : (isConstO xo || isConstO yo) = true) : (eqGuard op t xo yo .nilIface .nilIface).run P w = .ok () w := by
  cases xo <;> cases yo <;> first | (simp [isConstO] at h; done) | (cases op <;> rfl)

theorem eqOp_ok {op : BinOp} {t : TypeId} {xo yo : Operand} {x y : AV} {X Y : Value} {c : Bool} (hx : VR ρ x X) (hy : VR ρ y Y) (he : eqOp P t xo yo x y = some c) :
    (eqGuard op t xo yo X Y).run P w = .ok () w ∧ (Op.equal t X Y).run P w = .ok c w := by
  unfold eqOp at he
  split at he
  · have hx' := hx
    have hy' := hy
    simp only [VR] at hx hy
    subst hx hy
    cases hq : isConstO xo || isConstO yo with
    | false => rw [hq] at he; simp at he
    | true =>
      rw [hq] at he
      simp only [cond_true] at he
      exact ⟨eqGuard_nil hq, eqA_ok 10000 t _ _ _ _ c hx' hy' he⟩
  · cases hq : P.eqGuardType P.depth t with
    | true => rw [hq] at he; simp at he
    | false =>
      rw [hq] at he
      simp only [cond_false] at he
      refine ⟨?_, eqA_ok 10000 t _ _ _ _ c hx hy he⟩
      simp only [VR] at hx hy
      obtain ⟨C, rfl, _⟩ := hx
      obtain ⟨D, rfl, _⟩ := hy
      exact run_eqGuard_agg w op t xo yo C D hq
  · rename_i h1 h2
    refine ⟨eqGuard_plain (fun e e' => ?_) (fun C D e e' => ?_), eqA_ok 10000 t _ _ _ _ c hx hy he⟩
    · subst e e'
      exact h1 hx.nili_inv hy.nili_inv
    · subst e e'
      obtain ⟨l, rfl⟩ := hx.agg_inv
      obtain ⟨l', rfl⟩ := hy.agg_inv
      exact h2 _ _ rfl rfl

theorem eqGuard_num {op : BinOp} {t : TypeId} {xo yo : Operand} {X Y : Value} (hx : X ≠ .nilIface) (hc : ∀ C, X ≠ .agg C) : (eqGuard op t xo yo X Y).run P w = .ok () w :=
  eqGuard_plain (fun e _ => hx e) (fun C _ e _ => hc C e)

theorem bn_append : ∀ (l l' : List UInt8), bn (l ++ l') = bn l + 256 ^ l.length * bn l'
  | [], l' => by simp [bn]
  | a :: l, l' => by
    simp only [List.cons_append, bn, bn_append l l', List.length_cons, Nat.pow_succ]
    rw [Nat.mul_add, ← Nat.mul_assoc, Nat.mul_comm 256 (256 ^ l.length), Nat.add_assoc]

theorem pow256 (n : Nat) : 2 ^ (8 * n) = 256 ^ n := by rw [Nat.pow_mul]

theorem catS_eq (n a b : Nat) : catS n a b = a + 256 ^ n * b := by
  show a + b <<< (8 * n) = _
  rw [Nat.shiftLeft_eq, pow256, Nat.mul_comm]

theorem binA_ok {op : BinOp} {t : TypeId} {xo yo : Operand} {x y v : AV} {X Y : Value} (hx : VR ρ x X) (hy : VR ρ y Y) (he : binA P op t xo yo x y = some v) :
    ∃ V, (do eqGuard op t xo yo X Y; binOp op t X Y : Sem Value).run P w = .ok V w ∧ VR ρ v V := by
  unfold binA at he
  split at he
  · rename_i k a j b
    simp only [VR] at hx hy
    subst hx hy
    have hg := eqGuard_num (P := P) (w := w) (op := op) (t := t) (xo := xo) (yo := yo) (X := .int k a) (Y := .int j b) (by simp) (by simp)
    split at he
    · split at he
      · rename_i n
        simp only [Option.some.injEq] at he
        subst he
        refine ⟨.int k (wr k (a * 2 ^ (min n k.bits))), ?_, by simp only [VR]⟩
        simp only [Sem.run_bind, hg, Result.andThen_ok, binOp, Op.shift]
        rw [if_neg (by simp only [Int.ofNat_eq_natCast]; omega)]
        simp [wr_eq]
      · cases he
    · split at he
      · rename_i n
        simp only [Option.some.injEq] at he
        subst he
        refine ⟨.int k (a.fdiv (2 ^ (min n k.bits))), ?_, by simp only [VR]⟩
        simp only [Sem.run_bind, hg, Result.andThen_ok, binOp, Op.shift]
        rw [if_neg (by simp only [Int.ofNat_eq_natCast]; omega)]
        simp
      · cases he
    · rename_i hs1 hs2
      cases hk : eqK k j with
      | false => rw [hk] at he; simp at he
      | true =>
        rw [hk] at he
        simp only [cond_true] at he
        have := eqK_eq hk
        subst this
        have hb0 : binOp op t (.int k a) (.int k b) = binOp op 0 (.int k a) (.int k b) := by cases op <;> rfl
        split at he
        · rename_i c hc
          simp only [Option.some.injEq] at he
          subst he
          exact ⟨.int k c, by simp only [Sem.run_bind, hg, Result.andThen_ok, hb0, arI_ok hc], by simp only [VR]⟩
        · split at he
          · rename_i c hc
            simp only [Option.some.injEq] at he
            subst he
            refine ⟨.bool c, ?_, by simp only [VR]⟩
            have hb2 : ∃ why, binOp op 0 (.int k a) (.int k b) = (if k ≠ k then stuck why else Op.intCmp op a b) := by
              cases op <;> first | (cases hc; done) | exact ⟨_, rfl⟩
            have hb1 : binOp op 0 (.int k a) (.int k b) = Op.intCmp op a b := by
              obtain ⟨why, e⟩ := hb2
              rw [e, if_neg (by simp)]
            simp only [Sem.run_bind, hg, Result.andThen_ok, hb0, hb1, cmpI_ok hc]
          · cases he
  · rename_i n a m b
    obtain ⟨s, rfl, rfl, rfl⟩ := hx.str
    obtain ⟨s', rfl, rfl, rfl⟩ := hy.str
    have hg := eqGuard_num (P := P) (w := w) (op := op) (t := t) (xo := xo) (yo := yo) (X := .string s) (Y := .string s') (by simp) (by simp)
    have hbo : binOp op t (.string s) (.string s') = Op.stringOp op s s' := by cases op <;> rfl
    simp only [Sem.run_bind, hg, Result.andThen_ok, hbo]
    have e1 : s.data.toList.length = s.size := Array.length_toList
    have e2 : s'.data.toList.length = s'.size := Array.length_toList
    split at he
    · cases hq : Nat.ble (s.data.toList.length + s'.data.toList.length) 9223372036854775807 with
      | false => rw [hq] at he; simp at he
      | true =>
        rw [hq] at he
        simp only [cond_true, Option.some.injEq] at he
        subst he
        have hle := Nat.le_of_ble_eq_true hq
        refine ⟨.string (s ++ s'), ?_, ?_⟩
        · simp only [Op.stringOp]
          rw [if_neg]
          · rfl
          · have : IntKind.i64.max = 9223372036854775807 := rfl
            rw [this]
            omega
        · simp only [VR]
          refine ⟨_, rfl, ?_, ?_⟩
          · simp
          · rw [catS_eq]
            simp [bn_append]
    · simp only [Option.some.injEq] at he
      subst he
      refine ⟨.bool (s.toList == s'.toList), by simp only [Op.stringOp, Sem.run_pure], by simp only [VR, str_beq]⟩
    · simp only [Option.some.injEq] at he
      subst he
      refine ⟨.bool (!(s.toList == s'.toList)), by simp only [Op.stringOp, Sem.run_pure], by simp only [VR, str_beq]⟩
    · cases he
  · rename_i k m q b j d
    simp only [VR] at hx hy
    obtain ⟨n, rfl, h1, h2⟩ := hx
    subst hy
    have hg := eqGuard_num (P := P) (w := w) (op := op) (t := t) (xo := xo) (yo := yo) (X := .int k (.ofNat n)) (Y := .int j (.ofNat d)) (by simp) (by simp)
    split at he
    · cases hq : (eqK k j && Nat.blt 0 d && Nat.beq (Nat.mod m d) 0) with
      | false => rw [hq] at he; cases he
      | true =>
        rw [hq] at he
        simp only [cond_true, Option.some.injEq] at he
        subst he
        simp only [Bool.and_eq_true] at hq
        obtain ⟨⟨hk, hd⟩, hm⟩ := hq
        have := eqK_eq hk
        subst this
        rw [blt_iff] at hd
        have hm := Nat.eq_of_beq_eq_true hm
        have hdvd : d ∣ m := Nat.dvd_of_mod_eq_zero hm
        have hmod : n % d = q % d := by rw [← h1, Nat.mod_mod_of_dvd _ hdvd]
        have hb0 : binOp .rem t (.int k (.ofNat n)) (.int k (.ofNat d)) = binOp .rem 0 (.int k (.ofNat n)) (.int k (.ofNat d)) := rfl
        have har : arI .rem k (.ofNat n) (.ofNat d) = some ((Int.ofNat n).tmod (.ofNat d)) := by
          have : eqI (.ofNat d) 0 = false := by
            rw [eqI_eq]
            simpa using (by omega : d ≠ 0)
          simp only [arI, this, cond_false]
        refine ⟨.int k ((Int.ofNat n).tmod (.ofNat d)), by simp only [Sem.run_bind, hg, Result.andThen_ok, hb0, arI_ok har], ?_⟩
        simp only [VR]
        show Value.int k (Int.ofNat (n % d)) = Value.int k (Int.ofNat (q % d))
        rw [hmod]
    · cases he
  · cases he
  · cases he
  · rename_i hcx hcy h1 h2 _
    have hb := binOp_eql (t := t) (X := X) (Y := Y) (fun k a j b e e' => by subst e e'; exact h1 _ _ _ _ (hx.int_inv hcx) (hy.int_inv hcy)) (fun s s' e e' => by
      subst e e'
      obtain ⟨_, _, e⟩ := hx.string_inv
      obtain ⟨_, _, e'⟩ := hy.string_inv
      exact h2 _ _ _ _ e e') hx.noFloat.1 hx.noFloat.2
    split at he
    · split at he
      · rename_i c hc
        simp only [Option.some.injEq] at he
        subst he
        obtain ⟨a, b⟩ := eqOp_ok (w := w) (op := .eql) hx hy hc
        exact ⟨.bool c, by simp only [Sem.run_bind, a, Result.andThen_ok, hb.1, b, Sem.run_pure], by simp only [VR]⟩
      · cases he
    · split at he
      · rename_i c hc
        simp only [Option.some.injEq] at he
        subst he
        obtain ⟨a, b⟩ := eqOp_ok (w := w) (op := .neq) hx hy hc
        exact ⟨.bool (!c), by simp only [Sem.run_bind, a, Result.andThen_ok, hb.2, b, Sem.run_pure], by simp only [VR]⟩
      · cases he
    · cases he

theorem unA_ok {op : UnOp} {x v : AV} {X : Value} (hx : VR ρ x X) (he : unA op x = some v) : ∃ V, (Op.unary op X).run P w = .ok V w ∧ VR ρ v V := by
  unfold unA at he
  split at he
  · simp only [VR] at hx
    subst hx
    simp only [Option.some.injEq] at he
    subst he
    exact ⟨_, rfl, by simp only [VR]⟩
  · simp only [VR] at hx
    subst hx
    simp only [Option.some.injEq] at he
    subst he
    exact ⟨.int _ (wr _ (0 - _)), by rw [wr_eq]; rfl, by simp only [VR]⟩
  · simp only [VR] at hx
    subst hx
    simp only [Option.some.injEq] at he
    subst he
    exact ⟨_, rfl, by simp only [VR]⟩
  · cases he

theorem byte_get : ∀ (l : List UInt8) (i : Nat), i < l.length → byteAt (bn l) i = (l[i]?.getD 0).toNat := by
  intro l
  induction l with
  | nil => intro i h; simp at h
  | cons a l ih =>
    intro i h
    have ha := a.toNat_lt
    cases i with
    | zero =>
      show (bn (a :: l) >>> (8 * 0)) &&& 255 = _
      simp only [Nat.mul_zero, Nat.shiftRight_zero, List.getElem?_cons_zero, Option.getD_some, bn]
      rw [show (255 : Nat) = 2 ^ 8 - 1 from rfl, Nat.and_two_pow_sub_one_eq_mod]
      omega
    | succ i =>
      have := ih i (by simpa using h)
      simp only [List.getElem?_cons_succ]
      rw [← this]
      show (bn (a :: l) >>> (8 * (i + 1))) &&& 255 = (bn l >>> (8 * i)) &&& 255
      congr 1
      rw [show 8 * (i + 1) = 8 + 8 * i by omega, Nat.shiftRight_add]
      congr 1
      rw [Nat.shiftRight_eq_div_pow]
      simp only [bn]
      omega

theorem VR.slice {b o n e : Nat} {c : Bool} {A : Value} (r : VR ρ (.sl b o n e c) A) : ∃ l cap p, ρ b = some l ∧ A = .slice (some ⟨l.b, p, none⟩) n cap ∧ n ≤ cap ∧ p + cap * e ≤ l.c ∧ (c = true → cap = n) ∧ (n ≠ 0 ∨ o = 0 → p = l.o + o) := by simpa only [VR] using r

theorem indexAddr_ok {t : TypeId} {x i v : AV} {X I : Value} (hx : VR ρ x X) (hi : VR ρ i I) (he : indexAddrA P t x i = some v) : ∃ V, (Instr.indexAt t X I).run P w = .ok V w ∧ VR ρ v V := by
  unfold indexAddrA at he
  split at he
  · rename_i k i
    simp only [VR] at hi
    subst hi
    split at he
    · rename_i elem b o n e c hd
      obtain ⟨l, cap, p, e1, rfl, h1, h2, h3, h4⟩ := hx.slice
      split at he
      · rename_i s hs
        cases hq : Nat.blt i n && Nat.beq s e with
        | false => rw [hq] at he; simp at he
        | true =>
          rw [hq] at he
          simp only [cond_true, Option.some.injEq] at he
          subst he
          rw [Bool.and_eq_true, blt_iff] at hq
          have hp := h4 (.inl (by have := hq.1; omega))
          subst hp
          refine ⟨.pointer (some ⟨l.b, l.o + (o + i * s), none⟩), ?_, by simp only [VR]; exact ⟨l, e1, rfl⟩⟩
          have hc : (0 : Int) ≤ Int.ofNat i ∧ Int.ofNat i < (n : Int) := ⟨by simp, by simp; exact hq.1⟩
          simp only [Instr.indexAt, asIntOf, Sem.run_bind, Sem.run_pure, Result.andThen_ok, r_und hd, if_pos hc, r_size hs, addr_add]
          simp [Nat.add_assoc]
      · cases he
    · rename_i len elem b o hd
      obtain ⟨l, e1, rfl⟩ := hx.ptr
      split at he
      · rename_i s hs
        cases hq : Nat.blt i len with
        | false => rw [hq] at he; simp at he
        | true =>
          rw [hq] at he
          simp only [cond_true, Option.some.injEq] at he
          subst he
          rw [blt_iff] at hq
          refine ⟨.pointer (some ⟨l.b, l.o + (o + i * s), none⟩), ?_, by simp only [VR]; exact ⟨l, e1, rfl⟩⟩
          have hc : (0 : Int) ≤ Int.ofNat i ∧ Int.ofNat i < (len : Int) := ⟨by simp, by simp; exact hq⟩
          simp only [Instr.indexAt, asIntOf, Sem.run_bind, Sem.run_pure, Result.andThen_ok, r_und hd, Instr.sureAddr, if_pos hc, r_size hs, addr_add]
          simp [Nat.add_assoc]
      · cases he
    · cases he
  · cases he

theorem index_ok {t : TypeId} {x i v : AV} {X I : Value} (hx : VR ρ x X) (hi : VR ρ i I) (he : indexA P t x i = some v) : ∃ V, (Instr.index t X I).run P w = .ok V w ∧ VR ρ v V := by
  unfold indexA at he
  split at he
  · rename_i k i
    simp only [VR] at hi
    subst hi
    split at he
    · rename_i n a hd
      obtain ⟨s, rfl, rfl, rfl⟩ := hx.str
      cases hq : Nat.blt i s.data.toList.length with
      | false => rw [hq] at he; simp at he
      | true =>
        rw [hq] at he
        simp only [cond_true, Option.some.injEq] at he
        subst he
        rw [blt_iff] at hq
        have hb := byte_get s.data.toList i hq
        have hlt : i < s.size := by rw [show s.size = s.data.toList.length from Array.length_toList.symm]; exact hq
        have hg : s[i]? = some s[i] := by simp [hlt]
        refine ⟨.int .u8 s[i].toNat, ?_, ?_⟩
        · simp only [Instr.index, asIntOf, Sem.run_bind, Sem.run_pure, Result.andThen_ok, r_und hd]
          rw [if_pos (by simp)]
          simp only [Int.ofNat_eq_natCast, Int.toNat_natCast, hg]
          rfl
        · simp only [VR]
          congr 1
          rw [hb]
          simp only [Int.ofNat_eq_natCast]
          congr 1
          have : s.data.toList[i]? = some s[i] := by
            rw [List.getElem?_eq_getElem hq]; rfl
          rw [this]
          rfl
    · rename_i len elem l hd
      simp only [VR] at hx
      obtain ⟨C, rfl, a, b⟩ := hx
      split at he
      · rename_i s hs
        cases hq : Nat.blt i len with
        | false => rw [hq] at he; simp at he
        | true =>
          rw [hq] at he
          simp only [cond_true] at he
          rw [blt_iff] at hq
          obtain ⟨V, h1, h2⟩ := part_ok (P := P) (w := w) a b he
          have hc : (0 : Int) ≤ Int.ofNat i ∧ Int.ofNat i < (len : Int) := ⟨by simp, by simp; exact hq⟩
          refine ⟨V, ?_, h2⟩
          simp only [Instr.index, asIntOf, Sem.run_bind, Sem.run_pure, Result.andThen_ok, r_und hd, if_pos hc, r_size hs]
          exact h1
      · cases he
    · cases he
  · cases he

end ops
end Go.Ev
