/- Slices, conversions, lengths, appends. -/
import Derived.Test.YtibpgelajmoefaaGreatDoorEv9
namespace Go.Ev
variable {Λ : Laid}

theorem bn_lt : ∀ (l : List UInt8), bn l < 256 ^ l.length
  | [] => by simp [bn]
  | a :: l => by
    have h1 := bn_lt l
    have h2 := a.toNat_lt
    simp only [bn, List.length_cons, Nat.pow_succ]
    omega

theorem bn_drop (l : List UInt8) (a : Nat) : bn (l.drop a) = bn l / 256 ^ a := by
  rcases Nat.lt_or_ge l.length a with h | h
  · rw [List.drop_eq_nil_of_le (by omega)]
    have h1 := bn_lt l
    have h2 : 256 ^ l.length ≤ 256 ^ a := Nat.pow_le_pow_right (by omega) (by omega)
    simp only [bn]
    exact (Nat.div_eq_of_lt (by omega)).symm
  · have h1 := bn_append (l.take a) (l.drop a)
    rw [List.take_append_drop] at h1
    have h2 : (l.take a).length = a := by simp; omega
    have h3 := bn_lt (l.take a)
    rw [h2] at h1 h3
    rw [h1, Nat.add_mul_div_left _ _ (Nat.pow_pos (by omega)), Nat.div_eq_of_lt h3, Nat.zero_add]

theorem bn_take (l : List UInt8) (a : Nat) : bn (l.take a) = bn l % 256 ^ a := by
  rcases Nat.lt_or_ge l.length a with h | h
  · rw [List.take_of_length_le (by omega)]
    have h1 := bn_lt l
    have h2 : 256 ^ l.length ≤ 256 ^ a := Nat.pow_le_pow_right (by omega) (by omega)
    exact (Nat.mod_eq_of_lt (by omega)).symm
  · have h1 := bn_append (l.take a) (l.drop a)
    rw [List.take_append_drop] at h1
    have h2 : (l.take a).length = a := by simp; omega
    have h3 := bn_lt (l.take a)
    rw [h2] at h1 h3
    rw [h1, Nat.add_mul_mod_self_left, Nat.mod_eq_of_lt h3]

theorem subS_eq (l : List UInt8) (a b : Nat) : subS (bn l) a b = bn ((l.drop a).take (b - a)) := by
  rw [bn_take, bn_drop]
  show (bn l >>> (8 * a)) % 2 ^ (8 * (b - a)) = _
  rw [Nat.shiftRight_eq_div_pow, pow256, pow256]

section ops
variable {P : Program} {ρ : Rho} {base : Bs Λ} {h : Hp} {w : World}

def OptV (ρ : Rho) : Option AV → Option Value → Prop
  | none, V => V = none
  | some v, V => ∃ X, V = some X ∧ VR ρ v X

theorem bound_ok {x : Option AV} {X : Option Value} {d n m : Nat} {code : BoundsCode} (hx : OptV ρ x X) (hb : boundA x d = some n) (hn : n ≤ m) :
    (x = none ∧ X = none ∧ n = d) ∨ ∃ V, X = some V ∧ x ≠ none ∧ (Instr.sliceBound V m code).run P w = .ok n w := by
  unfold boundA at hb
  split at hb
  · simp only [Option.some.injEq] at hb
    exact .inl ⟨rfl, hx, hb.symm⟩
  · rename_i k i
    simp only [Option.some.injEq] at hb
    subst hb
    obtain ⟨X, rfl, r⟩ := hx
    simp only [VR] at r
    subst r
    refine .inr ⟨_, rfl, by simp, ?_⟩
    have : (0 : Int) ≤ Int.ofNat i ∧ Int.ofNat i ≤ (m : Int) := ⟨by simp, by simp; omega⟩
    simp only [Instr.sliceBound, asIntOf, Sem.run_bind, Sem.run_pure, Result.andThen_ok, if_pos this]
    rfl
  · cases hb

theorem bounds_ok {isSlice : Bool} {len cap l h' m : Nat} {lo hi mx : Option AV} {Lo Hi Mx : Option Value} (hl : OptV ρ lo Lo) (hh : OptV ρ hi Hi) (hm : OptV ρ mx Mx) (hok : okMx hi mx = true)
    (bl : boundA lo 0 = some l) (bh : boundA hi len = some h') (bm : boundA mx len = some m) (h1 : l ≤ h') (h2 : h' ≤ m) (h3 : m ≤ len) (h4 : len ≤ cap) :
    ∃ m', (Instr.sliceBounds isSlice len cap Lo Hi Mx).run P w = .ok (l, h', m') w ∧ ((mx = none ∧ m' = cap ∧ m = len) ∨ (mx ≠ none ∧ m' = m)) := by
  unfold Instr.sliceBounds
  rcases bound_ok (P := P) (w := w) (m := cap) (code := if isSlice then .slice3Acap else .slice3Alen) hm bm (by omega) with ⟨rfl, rfl, rfl⟩ | ⟨M, rfl, nm, rm⟩
  · refine ⟨cap, ?_, .inl ⟨rfl, rfl, rfl⟩⟩
    rcases bound_ok (P := P) (w := w) (m := cap) (code := if isSlice then .sliceAcap else .sliceAlen) hh bh (by omega) with ⟨rfl, rfl, rfl⟩ | ⟨H, rfl, nh, rh⟩
    · rcases bound_ok (P := P) (w := w) (m := h') (code := .sliceB) hl bl h1 with ⟨rfl, rfl, rfl⟩ | ⟨L, rfl, nl, rl⟩
      · simp
      · simp [rl]
    · rcases bound_ok (P := P) (w := w) (m := h') (code := .sliceB) hl bl h1 with ⟨rfl, rfl, rfl⟩ | ⟨L, rfl, nl, rl⟩
      · simp [rh]
      · simp [rh, rl]
  · refine ⟨m, ?_, .inr ⟨nm, rfl⟩⟩
    rcases bound_ok (P := P) (w := w) (m := m) (code := .slice3B) hh bh h2 with ⟨rfl, rfl, rfl⟩ | ⟨H, rfl, nh, rh⟩
    · cases mx with
      | none => exact absurd rfl nm
      | some x => simp [okMx] at hok
    · rcases bound_ok (P := P) (w := w) (m := h') (code := .slice3C) hl bl h1 with ⟨rfl, rfl, rfl⟩ | ⟨L, rfl, nl, rl⟩
      · simp [rm, rh]
      · simp [rm, rh, rl]

theorem slice_ok {t : TypeId} {x v : AV} {X : Value} {lo hi mx : Option AV} {Lo Hi Mx : Option Value} (hx : VR ρ x X) (hl : OptV ρ lo Lo) (hh : OptV ρ hi Hi) (hm : OptV ρ mx Mx)
    (he : sliceA P t x lo hi mx = some v) : ∃ V, (Instr.sliceAt t X Lo Hi Mx).run P w = .ok V w ∧ VR ρ v V := by
  unfold sliceA at he
  split at he
  · rename_i n a hd
    obtain ⟨s, rfl, rfl, rfl⟩ := hx.str
    split at he
    · cases he
    · split at he
      · rename_i l h' bl bh
        cases hq : Nat.ble l h' && Nat.ble h' s.data.toList.length with
        | false => rw [hq] at he; simp at he
        | true =>
          rw [hq] at he
          simp only [cond_true, Option.some.injEq] at he
          subst he
          rw [Bool.and_eq_true] at hq
          have q1 := Nat.le_of_ble_eq_true hq.1
          have q2 := Nat.le_of_ble_eq_true hq.2
          have hsz : s.data.toList.length = s.size := Array.length_toList
          obtain ⟨m', r, _⟩ := bounds_ok (P := P) (w := w) (ρ := ρ) (isSlice := false) (len := s.size) (cap := s.size) (m := s.size) (mx := none) hl hh (by rfl : OptV ρ none none) (by cases hi <;> rfl) bl (by rw [← hsz]; exact bh) rfl q1 (by omega) (Nat.le_refl _) (Nat.le_refl _)
          have hMx : Mx = none := hm
          subst hMx
          refine ⟨.string (s.extract l h'), ?_, ?_⟩
          · simp [Instr.sliceAt, Instr.slice, r_und hd, r]
          · simp only [VR]
            have hex : (s.extract l h').data.toList = (s.data.toList.drop l).take (h' - l) := by
              rw [ByteArray.data_extract, Array.toList_extract, List.extract_eq_take_drop]
            refine ⟨_, rfl, ?_, ?_⟩
            · rw [hex]; simp; omega
            · rw [hex, subS_eq]
      · cases he
  · rename_i elem b o n e c hd
    obtain ⟨k, cap, p, e1, rfl, h1, h2, h3, h4⟩ := hx.slice
    split at he
    · rename_i s hs
      cases hq : Nat.beq s e && okMx hi mx with
      | false => rw [hq] at he; simp at he
      | true =>
        rw [hq] at he
        simp only [cond_true] at he
        rw [Bool.and_eq_true] at hq
        have hse := Nat.eq_of_beq_eq_true hq.1
        subst hse
        split at he
        · rename_i l h' m bl bh bm
          cases hq2 : Nat.ble l h' && Nat.ble h' m && Nat.ble m n with
          | false => rw [hq2] at he; simp at he
          | true =>
            rw [hq2] at he
            simp only [cond_true, Option.some.injEq] at he
            rw [Bool.and_eq_true, Bool.and_eq_true] at hq2
            have q1 := Nat.le_of_ble_eq_true hq2.1.1
            have q2 := Nat.le_of_ble_eq_true hq2.1.2
            have q3 := Nat.le_of_ble_eq_true hq2.2
            obtain ⟨m', r, hm'⟩ := bounds_ok (P := P) (w := w) (isSlice := true) (cap := cap) hl hh hm hq.2 bl bh bm q1 q2 q3 h1
            have hm1 : m ≤ m' := by rcases hm' with ⟨_, a, b⟩ | ⟨_, a⟩ <;> omega
            have hm2 : m' ≤ cap := by rcases hm' with ⟨_, a, b⟩ | ⟨_, a⟩ <;> omega
            refine ⟨.slice (if m' = l then some ⟨k.b, p, none⟩ else some ⟨k.b, p + l * s, none⟩) (h' - l) (m' - l), ?_, ?_⟩
            · simp [Instr.sliceAt, Instr.slice, r_und hd, r, r_size hs, addr_add]
            · subst he
              simp only [VR]
              refine ⟨k, m' - l, if m' = l then p else p + l * s, e1, ?_, by omega, ?_, ?_, ?_⟩
              · by_cases q : m' = l <;> simp [q]
              · by_cases q : m' = l
                · rw [if_pos q, q]; simp; omega
                · rw [if_neg q]
                  have : l * s + (m' - l) * s = m' * s := by rw [← Nat.add_mul]; congr 1; omega
                  have : m' * s ≤ cap * s := Nat.mul_le_mul_right _ hm2
                  omega
              · intro hc
                rcases hm' with ⟨rfl, a, b⟩ | ⟨hn, a⟩
                · simp only [Bool.and_eq_true] at hc
                  have := h3 hc.1
                  have := Nat.eq_of_beq_eq_true hc.2
                  omega
                · cases mx with
                  | none => exact absurd rfl hn
                  | some x => have := Nat.eq_of_beq_eq_true hc; omega
              · intro hn
                by_cases q : m' = l
                · rw [if_pos q]
                  rcases hn with hn | hn
                  · exact absurd hn (by omega)
                  · have h0 : l * s = 0 := by omega
                    rw [h4 (.inr (by omega)), h0]
                    omega
                · rw [if_neg q]
                  rcases hn with hn | hn
                  · rw [h4 (.inl (by omega))]; omega
                  · rw [h4 (.inr (by omega))]; omega
        · cases he
    · cases he
  · rename_i elem hd
    simp only [VR] at hx
    subst hx
    split at he
    · rename_i s hs
      cases hq : okMx hi mx with
      | false => rw [hq] at he; simp at he
      | true =>
        rw [hq] at he
        simp only [cond_true] at he
        split at he
        · rename_i bl bh bm
          simp only [Option.some.injEq] at he
          subst he
          obtain ⟨m', r, hm'⟩ := bounds_ok (P := P) (w := w) (isSlice := true) (len := 0) (cap := 0) hl hh hm hq bl bh bm (Nat.le_refl _) (Nat.le_refl _) (Nat.le_refl _) (Nat.le_refl _)
          have hm0 : m' = 0 := by rcases hm' with ⟨_, a, b⟩ | ⟨_, a⟩ <;> omega
          subst hm0
          exact ⟨.slice none 0 0, by simp [Instr.sliceAt, Instr.slice, r_und hd, r, r_size hs], by simp only [VR]⟩
        · cases he
    · cases he
  · cases he

end ops
end Go.Ev
