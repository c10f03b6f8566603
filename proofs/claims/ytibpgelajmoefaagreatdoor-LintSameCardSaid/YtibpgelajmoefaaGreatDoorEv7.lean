/- Numbers, strings and comparisons. -/
import Derived.Test.YtibpgelajmoefaaGreatDoorEv6
import Derived.Laws.StructEq
namespace Go.Ev
variable {Λ : Laid}

theorem bn_inj : ∀ {l l' : List UInt8}, l.length = l'.length → bn l = bn l' → l = l'
  | [], [], _, _ => rfl
  | [], _ :: _, h, _ => by simp at h
  | _ :: _, [], h, _ => by simp at h
  | a :: l, b :: l', h, e => by
    simp only [bn] at e
    have ha := a.toNat_lt
    have hb := b.toNat_lt
    have h1 : a.toNat = b.toNat := by omega
    have h2 : bn l = bn l' := by omega
    rw [bn_inj (by simpa using h) h2, UInt8.toNat_inj.1 h1]

theorem eqI_eq (a b : Int) : eqI a b = (a == b) := by
  rw [Bool.eq_iff_iff, beq_iff_eq]
  cases a with
  | ofNat a => cases b with
    | ofNat b => exact (Nat.beq_eq (x := a) (y := b) ▸ Iff.rfl : Nat.beq a b = true ↔ a = b).trans ⟨fun h => h ▸ rfl, fun h => Int.ofNat.inj h⟩
    | negSucc b => exact ⟨fun h => (by cases h), fun h => (by cases h)⟩
  | negSucc a => cases b with
    | ofNat b => exact ⟨fun h => (by cases h), fun h => (by cases h)⟩
    | negSucc b => exact (Nat.beq_eq (x := a) (y := b) ▸ Iff.rfl : Nat.beq a b = true ↔ a = b).trans ⟨fun h => h ▸ rfl, fun h => Int.negSucc.inj h⟩

theorem blt_iff (a b : Nat) : Nat.blt a b = true ↔ a < b := by rw [Nat.blt_eq]

theorem ltI_eq (a b : Int) : ltI a b = decide (a < b) := by
  rw [Bool.eq_iff_iff, decide_eq_true_iff]
  cases a with
  | ofNat a => cases b with
    | ofNat b => exact (blt_iff a b).trans (by simp)
    | negSucc b => exact ⟨fun h => (by cases h), fun h => (by simp only [Int.ofNat_eq_natCast] at h; omega)⟩
  | negSucc a => cases b with
    | ofNat b => exact ⟨fun _ => by simp only [Int.ofNat_eq_natCast]; omega, fun _ => rfl⟩
    | negSucc b => exact (blt_iff b a).trans (by omega)

theorem wr_eq (k : IntKind) (n : Int) : wr k n = k.wrap n := by
  unfold wr
  split
  · rename_i a
    cases hb : Nat.blt a (topOf k) with
    | false => rfl
    | true =>
      have : a < topOf k := by simpa [Nat.blt_eq] using hb
      cases k <;> simp only [topOf] at this <;> simp only [IntKind.wrap, IntKind.bits, IntKind.signed, cond_true] <;> simp <;> omega
  · rename_i a
    cases hb : (k.signed && Nat.blt a (topOf k)) with
    | false => rfl
    | true =>
      rw [Bool.and_eq_true] at hb
      have : a < topOf k := by simpa [Nat.blt_eq] using hb.2
      have hs := hb.1
      cases k <;> simp only [IntKind.signed, Bool.false_eq_true] at hs <;> simp only [topOf] at this <;> simp only [IntKind.wrap, IntKind.bits, IntKind.signed, cond_true] <;> simp <;> omega

theorem eqK_eq {j k : IntKind} (h : eqK j k = true) : j = k := by
  cases j <;> cases k <;> first | rfl | exact absurd h (by decide)

section nums
variable {P : Program} {w : World}

theorem cmpI_ok {op : BinOp} {a b : Int} {c : Bool} (h : cmpI op a b = some c) : (Op.intCmp op a b).run P w = .ok (.bool c) w := by
  unfold cmpI at h
  split at h <;> first
    | (cases h; done)
    | (simp only [Option.some.injEq] at h
       subst h
       simp [Op.intCmp, eqI_eq, ltI_eq, bne]; done)
    | (simp only [Option.some.injEq] at h
       subst h
       simp only [Op.intCmp, ltI_eq, Sem.run_pure, Result.ok.injEq, Value.bool.injEq, and_true]
       rw [Bool.eq_iff_iff]
       simp)

theorem ofNat_mod (k : IntKind) (x : Nat) (h : x < topOf k) : (BitVec.ofInt k.bits (Int.ofNat x)).toNat = x := by
  have : x < 2 ^ k.bits := by cases k <;> simp only [topOf] at h <;> simp only [IntKind.bits] <;> omega
  rw [Int.ofNat_eq_natCast, BitVec.ofInt_natCast, BitVec.toNat_ofNat, Nat.mod_eq_of_lt this]

theorem wrap_mod (k : IntKind) (x : Nat) : k.wrap (Int.ofNat (x % 2 ^ k.bits)) = k.wrap (Int.ofNat x) := by
  unfold IntKind.wrap
  have : (Int.ofNat (x % 2 ^ k.bits)) % (2 ^ k.bits : Int) = (Int.ofNat x) % (2 ^ k.bits : Int) := by
    have e : (2 ^ k.bits : Int) = ((2 ^ k.bits : Nat) : Int) := by simp
    rw [e, Int.ofNat_eq_natCast, Int.ofNat_eq_natCast, ← Int.natCast_emod, ← Int.natCast_emod, Nat.mod_mod]
  rw [this]

theorem land_wrap (k : IntKind) (x y : Nat) : k.wrap ((BitVec.ofInt k.bits (Int.ofNat x) &&& BitVec.ofInt k.bits (Int.ofNat y)).toNat : Int) = wr k (Int.ofNat (Nat.land x y)) := by
  rw [wr_eq, BitVec.toNat_and]
  simp only [Int.ofNat_eq_natCast, BitVec.ofInt_natCast, BitVec.toNat_ofNat]
  rw [← Nat.and_mod_two_pow]
  exact wrap_mod k _

theorem arI_ok {op : BinOp} {k : IntKind} {a b c : Int} (h : arI op k a b = some c) : (binOp op 0 (.int k a) (.int k b)).run P w = .ok (.int k c) w := by
  unfold arI at h
  split at h <;> simp only [binOp]
  all_goals
    first
    | (cases h; done)
    | (simp only [Option.some.injEq] at h
       subst h
       simp [Op.intArith, wr_eq]; done)
    | skip
  · cases hb : eqI b 0 with
    | true => rw [hb] at h; simp at h
    | false =>
      rw [hb] at h
      simp only [cond_false, Option.some.injEq] at h
      subst h
      rw [eqI_eq] at hb
      have : b ≠ 0 := by simpa using hb
      simp [Op.intDiv, this, wr_eq]
  · cases hb : eqI b 0 with
    | true => rw [hb] at h; simp at h
    | false =>
      rw [hb] at h
      simp only [cond_false, Option.some.injEq] at h
      subst h
      rw [eqI_eq] at hb
      have : b ≠ 0 := by simpa using hb
      simp [Op.intDiv, this]
  · split at h
    · simp only [Option.some.injEq] at h
      subst h
      rw [← land_wrap]
      simp only [Op.intBits, if_neg (show ¬ (k ≠ k) by simp), Sem.run_pure]
    · simp only [Option.some.injEq] at h
      subst h
      simp [Op.intBits]
  · split at h
    · rename_i x y
      cases hq : (Nat.blt x (topOf k) && Nat.blt y (topOf k)) with
      | false => rw [hq] at h; simp at h
      | true =>
        rw [hq] at h
        simp only [cond_true, Option.some.injEq] at h
        subst h
        rw [Bool.and_eq_true, blt_iff, blt_iff] at hq
        have h1 := ofNat_mod k x hq.1
        have h2 := ofNat_mod k y hq.2
        simp only [Op.intBits, wr_eq, if_neg (show ¬ (k ≠ k) by simp)]
        rw [BitVec.toNat_or, h1, h2]
        rfl
    · cases h
  · simp only [Option.some.injEq] at h
    subst h
    simp [Op.intBits]
  · simp only [Option.some.injEq] at h
    subst h
    simp [Op.intBits]
end nums

end Go.Ev
