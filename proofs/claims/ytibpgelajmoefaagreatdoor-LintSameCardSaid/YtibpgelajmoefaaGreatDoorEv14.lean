/- Made maps and slices, a text's iteration, maps. -/
import Derived.Test.YtibpgelajmoefaaGreatDoorEv13
namespace Go.Ev
variable {Λ : Laid}

section ops
variable {P : Program} {ρ : Rho} {base : Bs Λ} {h : Hp} {w : World}

theorem makeMap0_ok (r : Rel ρ base h w) (hf : ρ h.next = none) : ∃ ρ' w', (newObj (.map #[] 0)).run P w = .ok w.heap.size w' ∧ Rel ρ' base (h.new (.map [] 0)) w' ∧ Step ρ h w ρ' (h.new (.map [] 0)) w' ∧
    VR ρ' (.map h.next) (.map (some w.heap.size)) := by
  have hg := r.fresh (o := .map [] 0) (O := .map #[] 0) (l := ⟨w.heap.size, 0, 0⟩) hf rfl (by simp) ⟨rfl, #[], by simp, by simp, by simp⟩
  exact ⟨_, _, rfl, hg.1, hg.2, by simp only [VR]; exact ⟨_, upd_eq _ _ _, rfl⟩⟩

theorem makeMapN_ok (r : Rel ρ base h w) (hf : ρ h.next = none) {t : TypeId} {v : AV} {h' : Hp} (he : AV.map h.next = v ∧ h.new (.map [] 0) = h') :
    ∃ ρ' V w', (Instr.makeMap t none).run P w = .ok V w' ∧ Rel ρ' base h' w' ∧ Step ρ h w ρ' h' w' ∧ VR ρ' v V := by
  obtain ⟨rfl, rfl⟩ := he
  obtain ⟨ρ', w', g1, g2, g3, g4⟩ := makeMap0_ok (P := P) r hf
  exact ⟨ρ', _, w', by simp [Instr.makeMap, g1], g2, g3, g4⟩

theorem asInt_run {k : IntKind} {n : Int} : (asInt (.int k n)).run P w = .ok n w := rfl

theorem makeMap_ok (r : Rel ρ base h w) (hf : ρ h.next = none) {t : TypeId} {x v : AV} {X : Value} {h' : Hp} (hx : VR ρ x X) (he : aMakeMap P t h x = .val v h') :
    ∃ ρ' V w', (Instr.makeMap t (some X)).run P w = .ok V w' ∧ Rel ρ' base h' w' ∧ Step ρ h w ρ' h' w' ∧ VR ρ' v V := by
  unfold aMakeMap at he
  split at he
  · simp only [VR] at hx
    subst hx
    split at he
    · rename_i k e hd
      injection he with e1 e2
      subst e1 e2
      obtain ⟨ρ', w', g1, g2, g3, g4⟩ := makeMap0_ok (P := P) r hf
      exact ⟨ρ', _, w', by simp only [Instr.makeMap, asInt_run, Sem.run_bind, Sem.run_pure, Result.andThen_ok, r_und hd, g1], g2, g3, g4⟩
    · cases he
  · cases he

theorem natI_ok {x : AV} {X : Value} {n : Nat} (hx : VR ρ x X) (h : natI x = some n) : ∃ k, X = .int k (Int.ofNat n) := by
  unfold natI at h
  split at h
  · simp only [Option.some.injEq] at h
    subst h
    simp only [VR] at hx
    exact ⟨_, hx⟩
  · cases h

theorem wrap_small {n : Nat} (h : n < 9223372036854775808) : IntKind.i64.wrap (Int.ofNat n) = Int.ofNat n := by
  rw [← wr_eq]
  unfold wr
  have : Nat.blt n (topOf .i64) = true := by rw [blt_iff]; exact h
  simp only [this, cond_true]

theorem makeSlice_ok (r : Rel ρ base h w) (hf : ρ h.next = none) {t : TypeId} {x y v : AV} {X Y : Value} {h' : Hp} (hx : VR ρ x X) (hy : VR ρ y Y) (he : aMakeSlice P t h x y = .val v h') :
    ∃ ρ' V w', (Instr.makeSlice t X Y).run P w = .ok V w' ∧ Rel ρ' base h' w' ∧ Step ρ h w ρ' h' w' ∧ VR ρ' v V := by
  unfold aMakeSlice at he
  split at he
  · rename_i l c elem hl hc hd
    obtain ⟨kl, rfl⟩ := natI_ok hx hl
    obtain ⟨kc, rfl⟩ := natI_ok hy hc
    unfold aMakeSlice2 at he
    split at he
    · rename_i s z bs hs hz hb
      cases hq : Nat.ble l c && Nat.ble c 1000000 && Nat.ble bs 100000 && Nat.beq z.length s with
      | false => rw [hq] at he; cases he
      | true =>
        rw [hq] at he
        simp only [cond_true] at he
        injection he with e1 e2
        subst e1 e2
        simp only [Bool.and_eq_true] at hq
        obtain ⟨⟨⟨q1, q2⟩, q3⟩, q4⟩ := hq
        have q1 := Nat.le_of_ble_eq_true q1
        have q2 := Nat.le_of_ble_eq_true q2
        have q3 := Nat.le_of_ble_eq_true q3
        have q4 := Nat.eq_of_beq_eq_true q4
        obtain ⟨info, i1, i2⟩ := r_info (P := P) (w := w) hb
        cases hzt : zT P elem with
        | none => rw [hzt] at hz; cases hz
        | some z0 =>
          rw [hzt] at hz
          have hz : z0.cells = some z := hz
          obtain ⟨Z, z1, z2⟩ := r_zero (P := P) (w := w) (ρ := ρ) hzt
          obtain ⟨Z3, Z4⟩ := cells_ok z2 hz
          have hZl := Z3.length
          have hfr := fresh_cells r hf [] (Z3.rep c) (fun X hX => Z4 X (mem_rep hX)) elem
          simp only [List.append_nil] at hfr
          have hm : bs * c ≤ 100000 * 1000000 := Nat.mul_le_mul q3 q2
          have hm' : c * bs ≤ 100000 * 1000000 := by rw [Nat.mul_comm]; exact hm
          have hsz : Z.cells.size = s := by rw [← Array.length_toList, hZl, q4]
          refine ⟨_, .slice (some ⟨w.heap.size, 0, none⟩) l c, { w with heap := w.heap.push (.cells (repL Z.cells.toList c).toArray elem) }, ?_, hfr.1, hfr.2, ?_⟩
          · have w1 := wrap_small (n := l) (by omega)
            have w2 := wrap_small (n := c) (by omega)
            have e1 : (info.bytes : Int) * Int.ofNat c ≤ 100000 * 1000000 := by
              rw [i2]
              have : (bs : Int) * (Int.ofNat c) = ((bs * c : Nat) : Int) := by simp
              rw [this]
              omega
            have hcond : (decide (Int.ofNat c < 0) || decide ((info.bytes : Int) * Int.ofNat c > 2 ^ 48) || decide (Int.ofNat l < 0) || decide (Int.ofNat l > Int.ofNat c)) = false := by
              simp only [Bool.or_eq_false_iff, decide_eq_false_iff_not]
              refine ⟨⟨⟨?_, ?_⟩, ?_⟩, ?_⟩
              · simp
              · omega
              · simp
              · simp; omega
            simp only [Instr.makeSlice, asInt_run, Sem.run_bind, Sem.run_pure, Result.andThen_ok, r_und hd, i1, w1, w2, hcond, Bool.false_eq_true, if_false]
            have hroom : (askRoom ((Int.ofNat c).toNat * info.bytes)).run P w = .ok () w := by
              unfold askRoom
              rw [i2, if_neg (by simp only [Int.ofNat_eq_natCast, Int.toNat_natCast, roomBytes]; omega)]
              rfl
            rw [hroom]
            simp only [Result.andThen_ok, r_size hs, Int.ofNat_eq_natCast, Int.toNat_natCast]
            by_cases h0 : c * s = 0
            · rw [if_pos h0]
              have e0 : repL Z.cells.toList c = [] := List.eq_nil_of_length_eq_zero (by rw [repL_length, Array.length_toList, hsz, h0])
              simp [h0, newRow, e0, show Array.range 0 = #[] from rfl]
            · rw [if_neg h0]
              have hzz := zeros_eq Z.cells c
              rw [hsz] at hzz
              simp only [Sem.run_bind, Sem.run_pure, Result.andThen_ok, z1, hsz, hzz]
              simp [newRow]
          · simp only [VR]
            refine ⟨_, c, 0, upd_eq _ _ _, rfl, q1, ?_, ?_, fun _ => by simp⟩
            · simp [repL_length, hsz]
            · intro hc; exact (Nat.eq_of_beq_eq_true hc).symm
    · cases he
  · cases he

theorem range_ok (r : Rel ρ base h w) (hf : ρ h.next = none) {t : TypeId} {x v : AV} {X : Value} {h' : Hp} (hx : VR ρ x X) (he : aRange P t h x = .val v h') :
    ∃ ρ' V w', (Instr.range t X).run P w = .ok V w' ∧ Rel ρ' base h' w' ∧ Step ρ h w ρ' h' w' ∧ VR ρ' v V := by
  unfold aRange at he
  split at he
  · rename_i n a
    obtain ⟨s, rfl, h1, h2⟩ := hx.str
    split at he
    · rename_i hd
      injection he with e1 e2
      subst e1 e2
      have hg := r.fresh (o := .iter n a 0) (O := .stringIter s 0) (l := ⟨w.heap.size, 0, 0⟩) hf rfl (by simp) ⟨rfl, s, by simp, h1, h2⟩
      exact ⟨_, .pointer (some ⟨w.heap.size, 0, none⟩), _, by simp [Instr.range, r_und hd, newObj]; rfl, hg.1, hg.2, by simp only [VR]; exact ⟨_, upd_eq _ _ _, rfl⟩⟩
    · cases he
  · cases he

theorem blt_dec (a b : Nat) : Nat.blt a b = decide (a < b) := by
  rw [Bool.eq_iff_iff, blt_iff, decide_eq_true_eq]
theorem ble_dec (a b : Nat) : Nat.ble a b = decide (a ≤ b) := by
  rw [Bool.eq_iff_iff, Nat.ble_eq, decide_eq_true_eq]
theorem beq_dec (a b : Nat) : Nat.beq a b = (a == b) := by
  rw [Bool.eq_iff_iff, Nat.beq_eq, beq_iff_eq]

theorem valid_nat (c : Nat) : Utf8.valid (c : Int) = (Nat.blt c 55296 || (Nat.ble 57344 c && Nat.ble c 1114111)) := by
  rw [blt_dec, ble_dec, ble_dec]
  unfold Utf8.valid
  rw [Bool.eq_iff_iff]
  simp only [Bool.or_eq_true, Bool.and_eq_true, decide_eq_true_eq]
  omega

theorem get_byte (s : ByteArray) (j : Nat) : (bif Nat.blt j s.data.toList.length then byteAt (bn s.data.toList) j else 0) = (s.get! j).toNat := by
  by_cases h : j < s.data.toList.length
  · have hb : Nat.blt j s.data.toList.length = true := by rw [blt_iff]; exact h
    rw [hb, cond_true, byte_get _ _ h]
    congr 1
    show _ = s.data[j]!
    rw [getElem!_def, ← Array.getElem?_toList]
    cases s.data.toList[j]? <;> rfl
  · have hb : Nat.blt j s.data.toList.length = false := by rw [blt_dec]; simpa using h
    rw [hb, cond_false]
    show _ = (s.data[j]!).toNat
    rw [getElem!_def, Array.getElem?_eq_none (by simpa using h)]
    rfl

theorem dec_ok (s : ByteArray) (i : Nat) : decA s.data.toList.length (bn s.data.toList) i = Utf8.decode s i := by
  have hsz : s.data.toList.length = s.size := Array.length_toList
  unfold decA Utf8.decode
  simp only [get_byte]
  simp only [hsz, valid_nat, blt_dec, ble_dec, beq_dec, cond_eq_ite, decide_eq_true_eq, ge_iff_le]

theorem next_ok (r : Rel ρ base h w) {ty : TypeId} {x v : AV} {X : Value} {h' : Hp} (hx : VR ρ x X) (he : nextA h x = .val v h') :
    ∃ V w', (Instr.next X true ty).run P w = .ok V w' ∧ Rel ρ base h' w' ∧ Step ρ h w ρ h' w' ∧ VR ρ v V := by
  unfold nextA at he
  split at he
  · rename_i b
    obtain ⟨l, hb, rfl⟩ := hx.ptr
    split at he
    · rename_i n a pos hg
      obtain ⟨h0, s, h1, h2, h3⟩ := r.obj b _ l hg hb
      have hgo : (getObj l.b).run P w = .ok (.stringIter s pos) w := by simp [getObj, Sem.run, h1]
      have hsz : s.data.toList.length = s.size := Array.length_toList
      cases hq : Nat.blt pos n with
      | false =>
        rw [hq] at he
        simp only [cond_false] at he
        injection he with e1 e2
        subst e1 e2
        rw [blt_dec, decide_eq_false_iff_not] at hq
        refine ⟨.tuple #[.bool false], w, ?_, r, .refl _ _ _, by simp only [VR]; exact ⟨_, rfl, .cons (by simp only [VR]) .nil⟩⟩
        have : ¬ pos < s.size := by omega
        simp [Instr.next, h0, hgo, this]
      | true =>
        rw [hq] at he
        simp only [cond_true] at he
        rw [← h2, ← h3, dec_ok] at he
        cases hd : Utf8.decode s pos with
        | mk c wd =>
          rw [hd] at he
          simp only at he
          injection he with e1 e2
          subst e1 e2
          rw [blt_iff] at hq
          have hlt : pos < s.size := by omega
          obtain ⟨t1, t2⟩ := r.turn (o' := .iter s.data.toList.length (bn s.data.toList) (pos + wd)) (O := .stringIter s (pos + wd)) hg rfl hb (by simp) ⟨h0, s, by
            show (w.heap.setIfInBounds l.b _)[l.b]? = _
            rw [Array.getElem?_setIfInBounds_self_of_lt (r.lt b l hb)], rfl, rfl⟩
          refine ⟨.tuple #[.bool true, .int .i64 (.ofNat pos), .int .i32 (.ofNat c)], _, ?_, t1, t2, by simp only [VR]; exact ⟨_, rfl, .cons (by simp only [VR]) (.cons (by simp only [VR]) (.cons (by simp only [VR]) .nil))⟩⟩
          have hso : ∀ o, (setObj l.b o).run P w = .ok () { w with heap := w.heap.setIfInBounds l.b o } := fun o => by simp [setObj, Sem.run, h1]
          simp only [Instr.next, h0, Nat.zero_add, Sem.run_bind, hgo, Result.andThen_ok, if_pos hlt, hd, hso, Sem.run_pure]
          rfl
    · cases he
  · cases he

end ops
end Go.Ev
