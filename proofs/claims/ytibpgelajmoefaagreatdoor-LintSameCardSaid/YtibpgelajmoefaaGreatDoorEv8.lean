/- Comparisons, operators, places and pieces. -/
import Derived.Test.YtibpgelajmoefaaGreatDoorEv7
namespace Go.Ev
variable {Λ : Laid}

section ops
variable {P : Program} {ρ : Rho} {base : Bs Λ} {h : Hp} {w : World}

theorem VR.str {n v : Nat} {A : Value} (r : VR ρ (.str n v) A) : ∃ s : ByteArray, A = .string s ∧ s.data.toList.length = n ∧ bn s.data.toList = v := by simpa only [VR] using r

theorem str_beq {s s' : ByteArray} : (s.toList == s'.toList) = (Nat.beq s.data.toList.length s'.data.toList.length && Nat.beq (bn s.data.toList) (bn s'.data.toList)) := by
  rw [ByteArray.toList_eq, ByteArray.toList_eq, Bool.eq_iff_iff, beq_iff_eq, Bool.and_eq_true, Nat.beq_eq, Nat.beq_eq]
  exact ⟨fun h => by rw [h]; exact ⟨rfl, rfl⟩, fun h => bn_inj h.1 h.2⟩

theorem part_ok {t : TypeId} {l : List AV} {C : Array Value} {o : Nat} {v : AV} (hl : VRL ρ l C.toList) (hs : ∀ X ∈ C.toList, scalar X) (he : loadC P t l o = some v) :
    ∃ V, (part t C o).run P w = .ok V w ∧ VR ρ v V := by
  unfold loadC at he
  split at he
  · rename_i ha
    split at he
    · rename_i n hn
      split at he
      · rename_i r hr
        simp only [Option.some.injEq] at he
        subst he
        obtain ⟨h1, h2⟩ := cut_ok hr
        refine ⟨.agg (C.extract o (o + n)), ?_, ?_⟩
        · simp only [part, Sem.run_bind, r_isAgg ha, Result.andThen_ok, if_true, r_size hn, Sem.run_pure]
        · simp only [VR]
          refine ⟨_, rfl, ?_, ?_⟩
          · have : (C.extract o (o + n)).toList = (C.toList.drop o).take n := by
              rw [Array.toList_extract, List.extract_eq_take_drop]
              congr 1
              omega
            rw [this, h1]
            exact (hl.drop o).take n
          · intro X hX
            refine hs X ?_
            have : (C.extract o (o + n)).toList = (C.toList.drop o).take n := by
              rw [Array.toList_extract, List.extract_eq_take_drop]
              congr 1
              omega
            rw [this] at hX
            exact List.mem_of_mem_drop (List.mem_of_mem_take hX)
      · cases he
    · cases he
  · rename_i ha
    split at he
    · rename_i x rest hx
      simp only [Option.some.injEq] at he
      subst he
      have : l[o]? = some x := by
        have := List.getElem?_drop (xs := l) (i := o) (j := 0)
        rw [hx] at this
        simpa using this.symm
      obtain ⟨V, a, b⟩ := hl.get o x this
      refine ⟨V, ?_, b⟩
      have : C[o]? = some V := by simpa using a
      simp only [part, Sem.run_bind, r_isAgg ha, Result.andThen_ok, Bool.false_eq_true, if_false, this, Sem.run_pure]
    · cases he
  · cases he

theorem eqFs_ok {d : Nat} {eq : TypeId → AV → AV → Option Bool} (ih : ∀ (t : TypeId) (x y : AV) (X Y : Value) (b : Bool), VR ρ x X → VR ρ y Y → eq t x y = some b → (Op.equalIn d t X Y).run P w = .ok b w)
    {xs ys : List AV} {XS YS : Array Value} (hx : VRL ρ xs XS.toList) (hy : VRL ρ ys YS.toList) (sx : ∀ X ∈ XS.toList, scalar X) (sy : ∀ X ∈ YS.toList, scalar X) :
    ∀ {fs : List Field} {b : Bool}, eqFs P eq xs ys fs = some b → (Op.eqFields d XS YS fs).run P w = .ok b w
  | [], b, he => by simp [eqFs] at he; subst he; rfl
  | f :: fs, b, he => by
    simp only [eqFs] at he
    cases hn : f.name == "_" with
    | true => rw [hn] at he; simp at he
    | false =>
      rw [hn] at he
      simp only [cond_false] at he
      have hn' : f.name ≠ "_" := by simpa using hn
      split at he
      · rename_i a c ha hc
        obtain ⟨A, a1, a2⟩ := part_ok (P := P) (w := w) hx sx ha
        obtain ⟨C, c1, c2⟩ := part_ok (P := P) (w := w) hy sy hc
        cases hq : eq f.type a c with
        | none => rw [hq] at he; simp [eqF1] at he
        | some r =>
          rw [hq] at he
          have := ih _ _ _ _ _ _ a2 c2 hq
          simp only [Op.eqFields, if_pos hn', Sem.run_bind, a1, c1, Result.andThen_ok, this, Sem.run_ite]
          cases r with
          | true =>
            simp only [eqF1] at he
            simpa using eqFs_ok ih hx hy sx sy he
          | false =>
            simp only [eqF1, Option.some.injEq] at he
            subst he
            simp
      · cases he

theorem sameAddr_ok {B o p : Nat} : (sameAddr ⟨B, o, none⟩ ⟨B, p, none⟩).run P w = .ok (Nat.beq o p) w := by
  simp only [sameAddr, beq_self_eq_true, if_true, Sem.run_pure]
  congr 1
  rw [Bool.eq_iff_iff, beq_iff_eq, Nat.beq_eq]
  exact ⟨fun h => by injection h, fun h => by rw [h]⟩

theorem eqA_ok : ∀ (d : Nat) (t : TypeId) (x y : AV) (X Y : Value) (b : Bool), VR ρ x X → VR ρ y Y → eqA P d t x y = some b → (Op.equalIn d t X Y).run P w = .ok b w
  | 0, _, _, _, _, _, _, _, _, h => by simp [eqA] at h
  | d + 1, t, x, y, X, Y, b, hx, hy, h => by
    simp only [eqA] at h
    split at h
    · rename_i hd
      split at h
      · simp only [VR] at hx hy
        subst hx hy
        simp only [Option.some.injEq] at h
        subst h
        simp [Op.equalIn, r_und hd]
      · cases h
    · rename_i k hd
      split at h
      · rename_i k a j c
        simp only [VR] at hx hy
        subst hx hy
        cases hk : eqK k j with
        | false => rw [hk] at h; simp at h
        | true =>
          rw [hk] at h
          simp only [cond_true, Option.some.injEq] at h
          subst h
          have := eqK_eq hk
          subst this
          simp [Op.equalIn, r_und hd, eqI_eq]
      · cases h
    · rename_i hd
      split at h
      · rename_i n a m c
        obtain ⟨s, rfl, rfl, rfl⟩ := hx.str
        obtain ⟨s', rfl, rfl, rfl⟩ := hy.str
        simp only [Option.some.injEq] at h
        subst h
        simp only [Op.equalIn, Sem.run_bind, r_und hd, Result.andThen_ok, Sem.run_pure, beq_toListBytes, str_beq]
      · cases h
    · rename_i el hd
      split at h
      · simp only [VR] at hx hy
        subst hx hy
        simp only [Option.some.injEq] at h
        subst h
        simp [Op.equalIn, r_und hd]
      · obtain ⟨l, _, rfl⟩ := hy.ptr
        simp only [VR] at hx
        subst hx
        simp only [Option.some.injEq] at h
        subst h
        simp [Op.equalIn, r_und hd]
      · obtain ⟨l, _, rfl⟩ := hx.ptr
        simp only [VR] at hy
        subst hy
        simp only [Option.some.injEq] at h
        subst h
        simp [Op.equalIn, r_und hd]
      · rename_i b1 o c p
        obtain ⟨l, e1, rfl⟩ := hx.ptr
        obtain ⟨l', e2, rfl⟩ := hy.ptr
        cases hq : Nat.beq b1 c with
        | false => rw [hq] at h; simp at h
        | true =>
          rw [hq] at h
          simp only [cond_true] at h
          have := Nat.eq_of_beq_eq_true hq
          subst this
          rw [e1] at e2
          cases e2
          split at h
          · rename_i n hn
            simp only [Option.some.injEq] at h
            subst h
            simp only [Op.equalIn, Sem.run_bind, r_und hd, Result.andThen_ok, r_size hn]
            rw [if_pos (by simp), sameAddr_ok]
            congr 1
            rw [Bool.eq_iff_iff, Nat.beq_eq, Nat.beq_eq]
            omega
          · cases h
      · cases h
    · rename_i ms hd
      split at h
      · simp only [VR] at hx hy
        subst hx hy
        simp only [Option.some.injEq] at h
        subst h
        simp [Op.equalIn, r_und hd]
      · simp only [VR] at hx hy
        obtain ⟨W, rfl, _⟩ := hy
        subst hx
        simp only [Option.some.injEq] at h
        subst h
        simp [Op.equalIn, r_und hd]
      · simp only [VR] at hx hy
        obtain ⟨W, rfl, _⟩ := hx
        subst hy
        simp only [Option.some.injEq] at h
        subst h
        simp [Op.equalIn, r_und hd]
      · cases h
    · rename_i el hd
      split at h
      · simp only [VR] at hx hy
        subst hx hy
        simp only [Option.some.injEq] at h
        subst h
        simp [Op.equalIn, r_und hd]
      · simp only [VR] at hx hy
        obtain ⟨l, cap, p, _, rfl, _⟩ := hy
        subst hx
        simp only [Option.some.injEq] at h
        subst h
        simp [Op.equalIn, r_und hd]
      · simp only [VR] at hx hy
        obtain ⟨l, cap, p, _, rfl, _⟩ := hx
        subst hy
        simp only [Option.some.injEq] at h
        subst h
        simp [Op.equalIn, r_und hd]
      · cases h
    · rename_i hd
      split at h
      · simp only [VR] at hx hy
        subst hx hy
        simp only [Option.some.injEq] at h
        subst h
        simp [Op.equalIn, r_und hd]
      · simp only [VR] at hx hy
        obtain ⟨F, A, C, rfl, _⟩ := hy
        subst hx
        simp only [Option.some.injEq] at h
        subst h
        simp [Op.equalIn, r_und hd]
      · simp only [VR] at hx hy
        obtain ⟨F, A, C, rfl, _⟩ := hx
        subst hy
        simp only [Option.some.injEq] at h
        subst h
        simp [Op.equalIn, r_und hd]
      · cases h
    · rename_i fs hd
      split at h
      · rename_i xs ys
        simp only [VR] at hx hy
        obtain ⟨XS, rfl, ax, bx⟩ := hx
        obtain ⟨YS, rfl, ay, by'⟩ := hy
        cases hs : P.stoodInHeld t with
        | true => rw [hs] at h; simp at h
        | false =>
          rw [hs] at h
          simp only [cond_false] at h
          have hf : P.fieldsOf t = fs := by simp [Program.fieldsOf, hd]
          rw [run_equalIn_struct w d t XS YS (by rw [hf]; exact hd) hs, hf]
          exact eqFs_ok (fun t x y X Y b a1 a2 a3 => eqA_ok d t x y X Y b a1 a2 a3) ax ay bx by' h
      · cases h
    · cases h

end ops
end Go.Ev
