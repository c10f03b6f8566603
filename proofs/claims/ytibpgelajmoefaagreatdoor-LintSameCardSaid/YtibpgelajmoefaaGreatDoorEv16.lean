/- The builtin functions. -/
import Derived.Test.YtibpgelajmoefaaGreatDoorEv15
import Derived.Lib.UnsafeStr
namespace Go.Ev
variable {Λ : Laid}

section ops
variable {P : Program} {ρ : Rho} {base : Bs Λ} {h : Hp} {w : World}

theorem vrl1 {x : AV} {A : Array Value} (h : VRL ρ [x] A.toList) : ∃ X, A = #[X] ∧ VR ρ x X := by
  simp only [VRL] at h
  obtain ⟨X, L, e, a, rfl⟩ := h
  exact ⟨X, by apply Array.ext'; simpa using e, a⟩
theorem vrl2 {x y : AV} {A : Array Value} (h : VRL ρ [x, y] A.toList) : ∃ X Y, A = #[X, Y] ∧ VR ρ x X ∧ VR ρ y Y := by
  simp only [VRL] at h
  obtain ⟨X, L, e, a, Y, L', rfl, b, rfl⟩ := h
  exact ⟨X, Y, by apply Array.ext'; simpa using e, a, b⟩
theorem arr_cons {ts : List TypeId} {t : TypeId} {A : Array TypeId} (h : A.toList = t :: ts) : A[0]? = some t := by
  rw [← Array.getElem?_toList, h]; rfl

theorem storeRow_ok (r : Rel ρ base h w) {b o : Nat} {l : Loc} {vs us l' : List AV} {Us : List Value} {e : TypeId} {z : Bool} (hb : ρ b = some l) (hg : h.get b = some (.cells vs e false z)) (hl : lay vs o us = some l')
    (hU : VRL ρ us Us) (hs : ∀ X ∈ Us, scalar X) (hp : 0 < us.length) :
    ∃ w', (storeCells ⟨l.b, l.o + o, none⟩ Us).run P w = .ok () w' ∧ Rel ρ base (h.set b (.cells l' e false z)) w' ∧ Step ρ h w ρ (h.set b (.cells l' e false z)) w' := by
  obtain ⟨c, fr, h1, h2, h3, h5, h4⟩ := r.obj b _ l hg hb
  have hfr := h3 rfl
  subst hfr
  have hlen : Us.length = us.length := hU.length
  obtain ⟨hb1, _⟩ := lay_ok hl
  have hroom : l.o + o + 0 + Us.length ≤ c.size := by
    obtain ⟨X, hX, _⟩ := h4 (o + us.length - 1) vs[o + us.length - 1] (List.getElem?_eq_getElem (by omega))
    have := (Array.getElem?_eq_some_iff.1 hX).1
    omega
  have hst := run_storeCells (P := P) Us (l.o + o) 0 c w h1 hs hroom
  have htr := r.turn (o' := .cells l' e false z) (O := .cells (setAll c (l.o + o + 0) Us) e (0, 0)) hg rfl hb (by simp) (by
    have hlt := r.lt b l hb
    refine ⟨setAll c (l.o + o + 0) Us, (0, 0), by simp [hlt], by rw [setAll_size]; exact h2, fun _ => rfl, h5, fun i x hx => ?_⟩
    rw [lay_get hl] at hx
    rw [setAll_get _ _ _ _ hroom]
    by_cases q1 : i < o
    · rw [if_pos q1] at hx
      rw [if_neg (by omega)]
      exact h4 i x hx
    · rw [if_neg q1] at hx
      by_cases q2 : i < o + us.length
      · rw [if_pos q2] at hx
        rw [if_pos (by omega)]
        obtain ⟨X, a, b⟩ := hU.get _ x hx
        rw [show l.o + i - (l.o + o + 0) = i - o by omega]
        exact ⟨X, a, b, hs X (List.mem_of_getElem? a)⟩
      · rw [if_neg q2] at hx
        rw [if_neg (by omega)]
        exact h4 i x hx)
  exact ⟨_, hst, htr.1, htr.2⟩

theorem bytes_ok : ∀ {l : List AV} {v : Nat} {c : Nat → Option Value}, builtinA.bytesToN l = some v → (∀ (i : Nat) (x : AV), l[i]? = some x → ∃ X, c i = some X ∧ VR ρ x X) →
    ∃ bs : List UInt8, bn bs = v ∧ bs.length = l.length ∧ ∀ j x, bs[j]? = some x → c j = some (.int .u8 x.toNat)
  | [], v, c, h, _ => by
    simp only [builtinA.bytesToN, Option.some.injEq] at h
    subst h
    exact ⟨[], rfl, rfl, by simp⟩
  | x :: l, v, c, h, hc => by
    unfold builtinA.bytesToN at h
    split at h
    · rename_i hx; cases hx
    · rename_i b l' hx
      injection hx with hx1 hx2
      subst hx1 hx2
      cases hb : Nat.blt b 256 with
      | false => rw [hb] at h; cases h
      | true =>
        rw [hb] at h
        simp only [cond_true] at h
        rw [blt_iff] at hb
        cases hr : builtinA.bytesToN l with
        | none => rw [hr] at h; cases h
        | some u =>
          rw [hr] at h
          simp only [Option.some.injEq] at h
          subst h
          obtain ⟨X, hX, hv⟩ := hc 0 _ rfl
          simp only [VR] at hv
          subst hv
          obtain ⟨bs, r3, r4, r5⟩ := bytes_ok (c := fun i => c (i + 1)) hr (fun i x hx => hc (i + 1) x (by simpa using hx))
          have hbt : b.toUInt8.toNat = b := by simp [Nat.toUInt8, Nat.mod_eq_of_lt hb]
          refine ⟨b.toUInt8 :: bs, ?_, by simp [r4], fun j x hx => ?_⟩
          · simp only [bn, r3, hbt]
          · cases j with
            | zero =>
              simp at hx
              subst hx
              rw [hX, hbt]; rfl
            | succ j => exact r5 j x (by simpa using hx)
    · cases h

/-- What an operation gives. -/
def NextR (ρ : Rho) (v : AV) (N : Next) (p : Prop) : Prop := (∃ V, N = .value V ∧ VR ρ v V) ∨ (N = .recover ∧ v = .nili ∧ p)

theorem lenv (n : Nat) : VR ρ (.int .i64 (.ofNat n)) (goInt n) := by simp only [VR]; rfl

theorem builtin_ok (r : Rel ρ base h w) (hf : ρ h.next = none) {b : Builtin} {ats : Array TypeId} {ty : TypeId} {cs : Array Bool} {args : List AV} {A : Array Value} {v : AV} {h' : Hp} (hA : VRL ρ args A.toList)
    (he : builtinA P b ats.toList ty h args = .val v h') :
    ∃ ρ' N w', (builtin b ats ty cs A).run P w = .ok N w' ∧ Rel ρ' base h' w' ∧ Step ρ h w ρ' h' w' ∧ NextR ρ' v N (b = .recover) := by
  have fin : ∀ {s : Sem Value} {V : Value} {v : AV} {b : Builtin}, s.run P w = .ok V w → VR ρ v V → ∃ ρ' N w', (do pure (.value (← s)) : Sem Next).run P w = .ok N w' ∧ Rel ρ' base h w' ∧ Step ρ h w ρ' h w' ∧ NextR ρ' v N (b = .recover) :=
    fun hs hv => ⟨ρ, _, w, by simp only [Sem.run_bind, hs, Result.andThen_ok, Sem.run_pure], r, .refl _ _ _, .inl ⟨_, rfl, hv⟩⟩
  unfold builtinA at he
  split at he
  -- len
  · rename_i x
    obtain ⟨X, rfl, hx⟩ := vrl1 hA
    split at he
    · rename_i t ts hts
      have h0 := arr_cons hts
      split at he
      · rename_i n a hd
        injection he with e1 e2
        subst e1 e2
        obtain ⟨s, rfl, rfl, _⟩ := hx.str
        exact fin (V := goInt s.size) (by simp [Builtin.len_, h0, r_und hd]) (lenv _)
      · rename_i el b o n e c hd
        injection he with e1 e2
        subst e1 e2
        obtain ⟨l, cap, p, _, rfl, _⟩ := hx.slice
        exact fin (V := goInt n) (by simp [Builtin.len_, h0, r_und hd]) (lenv _)
      · rename_i el hd
        injection he with e1 e2
        subst e1 e2
        simp only [VR] at hx
        subst hx
        exact fin (V := goInt 0) (by simp [Builtin.len_, h0, r_und hd]) (lenv 0)
      · rename_i n el hd
        injection he with e1 e2
        subst e1 e2
        exact fin (V := goInt n) (by simp [Builtin.len_, h0, r_und hd]) (lenv _)
      · rename_i k el hd
        injection he with e1 e2
        subst e1 e2
        simp only [VR] at hx
        subst hx
        exact fin (V := goInt 0) (by simp [Builtin.len_, h0, r_und hd]) (lenv 0)
      · rename_i k el b hd
        simp only [VR] at hx
        obtain ⟨l, hb, rfl⟩ := hx
        split at he
        · rename_i es clock hg
          injection he with e1 e2
          subst e1 e2
          obtain ⟨_, ces, h1, h2, _⟩ := r.obj b _ l hg hb
          have hgo : (getObj l.b).run P w = .ok (.map ces clock) w := by simp [getObj, Sem.run, h1]
          exact fin (V := goInt ces.size) (by simp [Builtin.len_, h0, r_und hd, hgo]) (by rw [h2]; exact lenv _)
        · cases he
      · cases he
    · cases he
  -- append
  · rename_i s x
    obtain ⟨S, X, rfl, hs, hx⟩ := vrl2 hA
    split at he
    · rename_i u hh ha
      injection he with e1 e2
      subst e1 e2
      obtain ⟨ρ', V, w', g1, g2, g3, g4⟩ := append_ok (P := P) (ty := ty) r hf hs hx ha
      exact ⟨ρ', _, w', by simp only [builtin, Sem.run_bind, g1, Result.andThen_ok, Sem.run_pure], g2, g3, .inl ⟨_, rfl, g4⟩⟩
    · cases he
  -- min
  · rename_i k a j b
    obtain ⟨X, Y, rfl, hx, hy⟩ := vrl2 hA
    simp only [VR] at hx hy
    subst hx hy
    injection he with e1 e2
    subst e1 e2
    refine fin (V := .int k (if b < a then b else a)) (by simp [Builtin.min_, Builtin.min2]) ?_
    simp only [VR]
    rw [ltI_eq]
    by_cases q : b < a <;> simp [q]
  -- max
  · rename_i k a j b
    obtain ⟨X, Y, rfl, hx, hy⟩ := vrl2 hA
    simp only [VR] at hx hy
    subst hx hy
    injection he with e1 e2
    subst e1 e2
    refine fin (V := .int k (if b > a then b else a)) (by simp [Builtin.max_, Builtin.max2]) ?_
    simp only [VR]
    rw [ltI_eq]
    by_cases q : a < b <;> simp [q]
  -- recover
  · injection he with e1 e2
    subst e1 e2
    exact ⟨ρ, _, w, rfl, r, .refl _ _ _, .inr ⟨rfl, rfl, rfl⟩⟩
  -- cap
  · rename_i x
    obtain ⟨X, rfl, hx⟩ := vrl1 hA
    split at he
    · rename_i t ts hts
      have h0 := arr_cons hts
      split at he
      · rename_i el hd
        injection he with e1 e2
        subst e1 e2
        simp only [VR] at hx
        subst hx
        exact fin (V := goInt 0) (by simp [Builtin.cap_, h0, r_und hd]) (lenv 0)
      · rename_i el b o n e hd
        injection he with e1 e2
        subst e1 e2
        obtain ⟨l, cap, p, _, rfl, _, _, hc, _⟩ := hx.slice
        have := hc rfl
        subst this
        exact fin (V := goInt cap) (by simp [Builtin.cap_, h0, r_und hd]) (lenv _)
      · cases he
    · cases he
  -- copy
  · rename_i d x
    obtain ⟨D, X, rfl, hd', hx⟩ := vrl2 hA
    split at he
    · rename_i t ts hts
      have h0 := arr_cons hts
      split at he
      · rename_i elem hd
        split at he
        · rename_i size hs
          have key : ∀ k new base' n cap, srcA h size x = some (k, new) → D = .slice base' n cap → Nat.min k n = 0 → ∃ ρ' N w', (builtin .copy ats ty cs #[D, X]).run P w = .ok N w' ∧ Rel ρ' base h w' ∧ Step ρ h w ρ' h w' ∧ NextR ρ' (.int .i64 0) N (Builtin.copy = .recover) := by
            intro k new base' n cap hsr hD hm
            subst hD
            obtain ⟨L, _, _, _, l4, l5⟩ := srcA_ok (P := P) r hx hsr
            have hfc : (Builtin.firstCells size 0 X).run P w = .ok #[] w := by
              unfold srcA at hsr
              split at hsr
              · simp only [VR] at hx; subst hx; rfl
              · obtain ⟨s, rfl, _⟩ := hx.str
                simp only [Builtin.firstCells, Sem.run_pure]
                congr 1
                apply Array.ext'
                simp
              · obtain ⟨l, cap, p, _, rfl, _⟩ := hx.slice
                simp only [Builtin.firstCells, Nat.zero_mul]
                rfl
              · cases hsr
            refine fin (V := goInt 0) ?_ (lenv 0)
            simp only [Builtin.copy_, List.getElem?_toArray, h0, List.getElem?_cons_zero, List.getElem?_cons_succ, Sem.run_bind, r_und hd, Result.andThen_ok, l4, hm, r_size hs, hfc]
            cases base' <;> simp [storeCells]
          split at he
          · rename_i hsr
            injection he with e1 e2
            subst e1 e2
            obtain ⟨l, cap, p, _, rfl, _⟩ := hd'.slice
            exact key _ _ _ _ _ hsr rfl (by simp)
          · rename_i hsr
            injection he with e1 e2
            subst e1 e2
            obtain ⟨l, cap, p, _, rfl, _⟩ := hd'.slice
            exact key _ _ _ _ _ hsr rfl (by simp)
          · rename_i hsr
            injection he with e1 e2
            subst e1 e2
            simp only [VR] at hd'
            subst hd'
            exact key _ _ _ _ _ hsr rfl (by simp)
          · cases he
        · cases he
      · cases he
    · cases he
  -- clear
  · rename_i x
    obtain ⟨X, rfl, hx⟩ := vrl1 hA
    have tupv : VR ρ (.tup []) (.tuple #[]) := by simp only [VR]; exact ⟨_, rfl, .nil⟩
    split at he
    · rename_i t ts hts
      have h0 := arr_cons hts
      split at he
      · rename_i el hd
        injection he with e1 e2
        subst e1 e2
        simp only [VR] at hx
        subst hx
        exact fin (V := .tuple #[]) (by simp [Builtin.clear_, h0, r_und hd]) tupv
      · rename_i elem b o n e c hd
        obtain ⟨l, cap, p, e1, rfl, h1, h2, h3, h4⟩ := hx.slice
        cases hn : Nat.beq n 0 with
        | true =>
          rw [hn] at he
          simp only [cond_true] at he
          injection he with e1 e2
          subst e1 e2
          have := Nat.eq_of_beq_eq_true hn
          subst this
          exact fin (V := .tuple #[]) (by simp [Builtin.clear_, h0, r_und hd]) tupv
        | false =>
          rw [hn] at he
          simp only [cond_false] at he
          have hn0 : n ≠ 0 := fun q => by subst q; simp at hn
          split at he
          · rename_i z l0 el zz hz hg
            cases hq : Nat.beq z.length e && Nat.blt 0 e with
            | false => rw [hq] at he; cases he
            | true =>
              rw [hq] at he
              simp only [cond_true] at he
              rw [Bool.and_eq_true, blt_iff] at hq
              have hze := Nat.eq_of_beq_eq_true hq.1
              split at he
              · rename_i l' hl
                injection he with e3 e2
                subst e3 e2
                obtain ⟨z0, hz0, hzc⟩ := Option.bind_eq_some_iff.1 hz
                obtain ⟨Z, z1, z2⟩ := r_zero (P := P) (w := w) (ρ := ρ) hz0
                obtain ⟨Z3, Z4⟩ := cells_ok z2 hzc
                have hp := h4 (.inl hn0)
                subst hp
                have hlen : (repL z n).length = n * e := by rw [repL_length, hze]
                obtain ⟨w', g1, g2, g3⟩ := storeRow_ok (P := P) r e1 hg hl (Z3.rep n) (fun X hX => Z4 X (mem_rep hX)) (by rw [hlen]; exact Nat.mul_pos (by omega) hq.2)
                refine ⟨ρ, .value (.tuple #[]), w', ?_, g2, g3, .inl ⟨_, rfl, tupv⟩⟩
                have hzc' : (Builtin.zeroCells Z.cells n).toList = repL Z.cells.toList n := by
                  unfold Builtin.zeroCells
                  rw [zeros_eq]
                obtain ⟨m, rfl⟩ : ∃ m, n = m + 1 := ⟨n - 1, by omega⟩
                simp [builtin, Builtin.clear_, h0, r_und hd, z1, hzc', g1]
              · cases he
          · cases he
      · cases he
    · cases he
  -- unsafe.SliceData
  · rename_i x
    obtain ⟨X, rfl, hx⟩ := vrl1 hA
    split at he
    · injection he with e1 e2
      subst e1 e2
      simp only [VR] at hx
      subst hx
      exact fin (V := .pointer none) (Lib.run_unsafeSliceData_nil w _ _ _ _) (by simp only [VR])
    · rename_i b o n e c
      obtain ⟨l, cap, p, e1, rfl, h1, h2, h3, h4⟩ := hx.slice
      cases hn : Nat.beq n 0 with
      | true => rw [hn] at he; cases he
      | false =>
        rw [hn] at he
        simp only [cond_false] at he
        injection he with e1 e2
        subst e1 e2
        have hn0 : n ≠ 0 := fun q => by subst q; simp at hn
        have hp := h4 (.inl hn0)
        subst hp
        refine fin (V := .pointer (some ⟨l.b, l.o + o, none⟩)) (Lib.run_unsafeSliceData_row w _ _ _ _ _ (by omega)) (by simp only [VR]; exact ⟨l, by assumption, rfl⟩)
    · cases he
  -- unsafe.String
  · rename_i p n
    obtain ⟨Pp, N, rfl, hp, hn⟩ := vrl2 hA
    simp only [VR] at hn
    subst hn
    split at he
    · rename_i pt it hts
      have hats : ats = #[pt, it] := by apply Array.ext'; simpa using hts
      subst hats
      split at he
      · cases hz : Nat.beq n 0 with
        | false => rw [hz] at he; cases he
        | true =>
          rw [hz] at he
          simp only [cond_true] at he
          injection he with e1 e2
          subst e1 e2
          have := Nat.eq_of_beq_eq_true hz
          subst this
          simp only [VR] at hp
          subst hp
          exact fin (V := .string .empty) (Lib.run_unsafeString_none w _ _ _ _) (by simp only [VR]; exact ⟨_, rfl, rfl, rfl⟩)
      · rename_i u b o hd
        cases hz : Nat.beq n 0 with
        | true => rw [hz] at he; cases he
        | false =>
          rw [hz] at he
          simp only [cond_false] at he
          have hn0 : n ≠ 0 := fun q => by subst q; simp at hz
          obtain ⟨l, hb, rfl⟩ := hp.ptr
          split at he
          · rename_i l0 e hg
            cases hq : Nat.beq e u && Nat.beq (P.cellsOf e) 1 && Nat.beq l0.length n && Nat.beq o 0 && Nat.ble n 9223372036854775807 with
            | false => rw [hq] at he; cases he
            | true =>
              rw [hq] at he
              simp only [cond_true] at he
              simp only [Bool.and_eq_true] at hq
              obtain ⟨⟨⟨⟨q0, q1⟩, q2⟩, q3⟩, q4⟩ := hq
              have q0 := Nat.eq_of_beq_eq_true q0
              have q1 := Nat.eq_of_beq_eq_true q1
              have q2 := Nat.eq_of_beq_eq_true q2
              have q3 := Nat.eq_of_beq_eq_true q3
              have q4 := Nat.le_of_ble_eq_true q4
              subst q3 q0
              split at he
              · rename_i v' hv
                injection he with e1 e2
                subst e1 e2
                obtain ⟨c, fr, g1, g2, g4, g5, g3⟩ := r.obj b _ l hg hb
                have hfr := g4 rfl
                subst hfr
                have hlo := g5 rfl
                rw [hlo] at g3
                obtain ⟨bs, s3, s4, s5⟩ := bytes_ok (c := fun i => c[0 + i]?) hv (fun i x hx => by
                  obtain ⟨X, a, b, _⟩ := g3 i x hx
                  exact ⟨X, a, b⟩)
                have s4 : bs.length = n := by omega
                subst s4
                have hc : bs.length ≤ c.size := by
                  obtain ⟨X, a, _⟩ := g3 (bs.length - 1) l0[bs.length - 1] (List.getElem?_eq_getElem (by omega))
                  have := (Array.getElem?_eq_some_iff.1 a).1
                  omega
                obtain ⟨t1, t2⟩ := r.turn (o' := .dead) (O := .cells c e (0, bs.length)) hg rfl hb (by simp) trivial
                refine ⟨ρ, .value (.string ⟨bs.toArray⟩), _, ?_, t1, t2, .inl ⟨_, rfl, by simp only [VR]; exact ⟨_, rfl, by simp, by simpa using s3⟩⟩⟩
                have hfz : w.freeze ⟨l.b, 0, none⟩ bs.length = { w with heap := w.heap.setIfInBounds l.b (.cells c e (0, bs.length)) } := by
                  simp only [World.freeze, if_neg hn0]
                  congr 1
                  apply Array.ext_getElem?
                  intro j
                  rw [Array.getElem?_modify]
                  by_cases hj : l.b = j
                  · subst hj
                    rw [if_pos rfl, g1, Array.getElem?_setIfInBounds_self_of_lt (r.lt b l hb)]
                    simp
                  · rw [if_neg hj, Array.getElem?_setIfInBounds_ne hj]
                have := Lib.run_unsafeString_row w pt it ty e hd q1 l.b c.size (by simp [World.shape?, g1]) bs (by intro h0; subst h0; exact hn0 rfl) hc q4 (fun j x hx => by
                  rw [addr_add, cell_of g1]
                  exact s5 j x hx)
                rw [hfz] at this
                simp only [builtin, Sem.run_bind, hlo, Nat.zero_add]
                rw [show (Int.ofNat bs.length) = (bs.length : Int) from rfl, this]
                rfl
              · cases he
          · cases he
      · cases he
    · cases he
  · cases he

end ops
end Go.Ev
