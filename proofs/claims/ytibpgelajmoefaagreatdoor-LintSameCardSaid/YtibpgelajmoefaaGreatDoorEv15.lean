/- Maps: reading and writing. -/
import Derived.Test.YtibpgelajmoefaaGreatDoorEv14
namespace Go.Ev
variable {Λ : Laid}

section ops
variable {P : Program} {ρ : Rho} {base : Bs Λ} {h : Hp} {w : World}

theorem run_forIn {α : Type} {f : α → PUnit → Sem (ForInStep PUnit)} : ∀ {l : List α}, (∀ x ∈ l, (f x ⟨⟩).run P w = .ok (.yield ⟨⟩) w) → (forIn l PUnit.unit f).run P w = .ok ⟨⟩ w
  | [], _ => by simp
  | x :: l, h => by
    simp only [List.forIn_cons, Sem.run_bind, h x (.head _), Result.andThen_ok]
    exact run_forIn fun y hy => h y (.tail _ hy)

theorem checkKey_ok {b : Bool} : ∀ {n : Nat} {t : TypeId} {v : AV} {V : Value}, VR ρ v V → checkKeyA P n t v = true → (Instr.checkKey b n t V).run P w = .ok () w
  | 0, _, _, _, _, h => by simp [checkKeyA] at h
  | n + 1, t, v, V, hv, h => by
    unfold checkKeyA at h
    split at h
    · rename_i fs l hd
      simp only [VR] at hv
      obtain ⟨C, rfl, a, s⟩ := hv
      simp only [Instr.checkKey, Sem.run_bind, r_und hd, Result.andThen_ok]
      rw [← Array.forIn_toList, run_forIn]
      · rfl
      · intro f hf
        have := List.all_eq_true.1 h f hf
        rw [Bool.or_eq_true] at this
        by_cases hn : f.name = "_"
        · simp [hn]
        · rcases this with h0 | h0
          · exact absurd (by simpa using h0) hn
          · split at h0
            · rename_i x hx
              obtain ⟨X, x1, x2⟩ := part_ok (P := P) (w := w) a s hx
              simp [hn, x1, checkKey_ok x2 h0]
            · cases h0
    · rename_i hd
      simp only [VR] at hv
      subst hv
      simp [Instr.checkKey, r_und hd]
    · rename_i hd
      obtain ⟨s, rfl, _⟩ := hv.str
      simp [Instr.checkKey, r_und hd]
    · rename_i hd
      simp only [VR] at hv
      subst hv
      simp [Instr.checkKey, r_und hd]
    · cases h

theorem sameNow_ok' (n : Nat) {d : TypeDesc} {t : TypeId} {K K' : Value} {b : Bool} (hd : P.underlying t = some d) (h : Instr.sameNow d K K' = some b) : (Op.equalIn (n + 1) t K K').run P w = .ok b w := by
  unfold Instr.sameNow at h
  split at h
  · split at h
    · rename_i hk
      simp only [Option.some.injEq] at h
      subst h hk
      simp [Op.equalIn, r_und hd]
    · cases h
  · simp only [Option.some.injEq] at h
    subst h
    simp [Op.equalIn, r_und hd]
  · simp only [Option.some.injEq] at h
    subst h
    simp [Op.equalIn, r_und hd]
  · cases h
theorem sameNow_ok {d : TypeDesc} {t : TypeId} {K K' : Value} {b : Bool} (hd : P.underlying t = some d) (h : Instr.sameNow d K K' = some b) : (Op.equal t K K').run P w = .ok b w := sameNow_ok' 9999 hd h

/-- Entries. -/
def EntR (ρ : Rho) (es : List (AV × AV × Nat)) (ces : List MapEntry) : Prop :=
  ces.length = es.length ∧ ∀ (i : Nat) (x : AV × AV × Nat), es[i]? = some x → ∃ E, ces[i]? = some E ∧ VR ρ x.1 E.key ∧ VR ρ x.2.1 E.val ∧ E.born = x.2.2

theorem EntR.tail {x : AV × AV × Nat} {es : List (AV × AV × Nat)} {E : MapEntry} {ces : List MapEntry} (h : EntR ρ (x :: es) (E :: ces)) : VR ρ x.1 E.key ∧ VR ρ x.2.1 E.val ∧ EntR ρ es ces := by
  obtain ⟨h1, h2⟩ := h
  obtain ⟨E', e, a, b, _⟩ := h2 0 x rfl
  simp at e
  subst e
  exact ⟨a, b, by simpa using h1, fun j y hy => by simpa using h2 (j + 1) y (by simpa using hy)⟩

def FndR (ρ : Rho) : Option (Nat × AV) → Option (Nat × Value) → Prop
  | none, x => x = none
  | some (i, v), x => ∃ V, x = some (i, V) ∧ VR ρ v V

theorem find_ok {t : TypeId} {k : AV} {K : Value} (hk : VR ρ k K) : ∀ {es : List (AV × AV × Nat)} {ces : List MapEntry} {i : Nat} {r : Option (Nat × AV)}, EntR ρ es ces → findA P t k es i = some r →
    ∃ R, (Instr.findAsking t K ces i).run P w = .ok R w ∧ FndR ρ r R ∧ ∀ d, P.underlying t = some d → ∀ R', Instr.findNow d K ces i = some R' → R' = R
  | [], [], i, r, _, h => by
    simp only [findA, Option.some.injEq] at h
    subst h
    exact ⟨none, rfl, rfl, fun d _ R' h => by simpa [Instr.findNow] using h.symm⟩
  | [], _ :: _, _, _, h, _ => by have := h.1; simp at this
  | _ :: _, [], _, _, h, _ => by have := h.1; simp at this
  | (k', v, c) :: es, E :: ces, i, r, he, h => by
    obtain ⟨a, b, he'⟩ := he.tail
    unfold findA at h
    split at h
    · rename_i hq
      simp only [Option.some.injEq] at h
      subst h
      have h1 := eqA_ok (P := P) (w := w) _ _ _ _ _ _ _ hk a hq
      refine ⟨some (i, E.val), ?_, ⟨_, rfl, b⟩, ?_⟩
      · simp [Instr.findAsking, Op.equal, Op.maxDepth, h1]
      · intro d hd R' hR
        unfold Instr.findNow at hR
        split at hR
        · simpa using hR.symm
        · rename_i hs
          have h2 := sameNow_ok (P := P) (w := w) hd hs
          rw [show Op.equal t K E.key = Op.equalIn 10000 t K E.key from rfl, h1] at h2
          injection h2 with h2
          cases h2
        · cases hR
    · rename_i hq
      have h1 := eqA_ok (P := P) (w := w) _ _ _ _ _ _ _ hk a hq
      obtain ⟨R, g1, g2, g3⟩ := find_ok hk he' h
      refine ⟨R, ?_, g2, ?_⟩
      · simp [Instr.findAsking, Op.equal, Op.maxDepth, h1, g1]
      · intro d hd R' hR
        unfold Instr.findNow at hR
        split at hR
        · rename_i hs
          have h2 := sameNow_ok (P := P) (w := w) hd hs
          rw [show Op.equal t K E.key = Op.equalIn 10000 t K E.key from rfl, h1] at h2
          injection h2 with h2
          cases h2
        · exact g3 d hd R' hR
        · cases hR
    · cases h

theorem findKey_ok {t : TypeId} {d : TypeDesc} {k : AV} {K : Value} (hd : P.underlying t = some d) (hk : VR ρ k K) {es : List (AV × AV × Nat)} {ces : List MapEntry} {r : Option (Nat × AV)} (he : EntR ρ es ces) (h : findA P t k es 0 = some r) :
    ∃ R, (Instr.findKey t K ces).run P w = .ok R w ∧ FndR ρ r R := by
  obtain ⟨R, g1, g2, g3⟩ := find_ok (P := P) (w := w) hk he h
  refine ⟨R, ?_, g2⟩
  simp only [Instr.findKey, Sem.run_bind, r_und hd, Result.andThen_ok]
  cases hf : Instr.findNow d K ces 0 with
  | none => exact g1
  | some R' => rw [g3 d hd R' hf]; rfl

theorem checkKeyA_und {n : Nat} {t : TypeId} {v : AV} (h : checkKeyA P n t v = true) : ∃ d, P.underlying t = some d := by
  cases n with
  | zero => simp [checkKeyA] at h
  | succ n =>
    unfold checkKeyA at h
    split at h <;> first | exact ⟨_, by assumption⟩ | cases h

theorem lookup_ok (r : Rel ρ base h w) {t : TypeId} {x k v : AV} {X K : Value} {ok : Bool} (hx : VR ρ x X) (hk : VR ρ k K) (he : lookupA P t h x k ok = some v) :
    ∃ V, (Instr.lookup t X K ok).run P w = .ok V w ∧ VR ρ v V := by
  unfold lookupA at he
  split at he
  · rename_i key elem hd
    have main : ∀ (es : List (AV × AV × Nat)) (ces : Array MapEntry), EntR ρ es ces.toList → ((Instr.lookup t X K ok).run P w = (do
            Instr.checkKey ces.isEmpty 10000 key K
            let (v, o) ← match ← Instr.findKey key K ces.toList with
              | some (_, v) => pure (v, true)
              | none => pure (← zeroValue elem, false)
            pure (if ok then .tuple #[v, .bool o] else v) : Sem Value).run P w) →
        (bif checkKeyA P 10000 key k then (match findA P key k es 0 with
      | some (some (_, v)) => some (bif ok then .tup [v, .bool true] else v)
      | some none => (match zT P elem with
        | some z => some (bif ok then .tup [z, .bool false] else z)
        | none => none)
      | none => none) else none) = some v → ∃ V, (Instr.lookup t X K ok).run P w = .ok V w ∧ VR ρ v V := by
      intro es ces hent hlk hv
      cases hc : checkKeyA P 10000 key k with
      | false => rw [hc] at hv; cases hv
      | true =>
        rw [hc] at hv
        simp only [cond_true] at hv
        obtain ⟨kd, hkd⟩ := checkKeyA_und hc
        have hck := fun b => checkKey_ok (P := P) (w := w) (b := b) hk hc
        rw [hlk]
        cases hf : findA P key k es 0 with
        | none => rw [hf] at hv; cases hv
        | some R =>
          rw [hf] at hv
          obtain ⟨R', f1, f2⟩ := findKey_ok (P := P) (w := w) hkd hk hent hf
          cases R with
          | none =>
            have : R' = none := f2
            subst this
            simp only at hv
            cases hz : zT P elem with
            | none => rw [hz] at hv; cases hv
            | some z =>
              rw [hz] at hv
              simp only [Option.some.injEq] at hv
              obtain ⟨Z, z1, z2⟩ := r_zero (P := P) (w := w) (ρ := ρ) hz
              refine ⟨if ok then .tuple #[Z, .bool false] else Z, by simp [hck, f1, z1], ?_⟩
              subst hv
              cases ok
              · exact z2
              · simp only [cond_true, if_true, VR]; exact ⟨_, rfl, .cons z2 (.cons (by simp only [VR]) .nil)⟩
          | some iv =>
            obtain ⟨i, u⟩ := iv
            obtain ⟨U, rfl, hu⟩ := f2
            simp only [Option.some.injEq] at hv
            refine ⟨if ok then .tuple #[U, .bool true] else U, by simp [hck, f1], ?_⟩
            subst hv
            cases ok
            · exact hu
            · simp only [cond_true, if_true, VR]; exact ⟨_, rfl, .cons hu (.cons (by simp only [VR]) .nil)⟩
    split at he
    · rename_i es hes
      split at hes
      · simp only [Option.some.injEq] at hes
        subst hes
        simp only [VR] at hx
        subst hx
        exact main [] #[] ⟨rfl, by simp⟩ (by simp only [Instr.lookup, Sem.run_bind, r_und hd, Result.andThen_ok, Sem.run_pure]; rfl) he
      · rename_i b
        simp only [VR] at hx
        obtain ⟨l, hb, rfl⟩ := hx
        split at hes
        · rename_i es' clock hg
          simp only [Option.some.injEq] at hes
          subst hes
          obtain ⟨h0, ces, h1, h2, h3⟩ := r.obj b _ l hg hb
          have hgo : (getObj l.b).run P w = .ok (.map ces clock) w := by simp [getObj, Sem.run, h1]
          exact main es' ces ⟨by simpa using h2, fun i x hx => by simpa using h3 i x hx⟩ (by simp only [Instr.lookup, Sem.run_bind, r_und hd, Result.andThen_ok, Sem.run_pure, hgo]; rfl) he
        · cases hes
      · cases hes
    · cases he
  · cases he

theorem sameS_ok {n : Nat} {k k' : AV} {K K' : Value} (hk : VR ρ k K) (hk' : VR ρ k' K') (h : sameS k k' = true) : Instr.sameBits n K K' = true := by
  unfold sameS at h
  split at h
  · simp only [VR] at hk hk'
    subst hk hk'
    rw [Bool.and_eq_true] at h
    have h1 := eqK_eq h.1
    have h2 := h.2
    rw [eqI_eq] at h2
    have h2 := eq_of_beq h2
    subst h1 h2
    cases n <;> simp [Instr.sameBits]
  · obtain ⟨s, rfl, rfl, rfl⟩ := hk.str
    obtain ⟨s', rfl, h1, h2⟩ := hk'.str
    rw [Bool.and_eq_true] at h
    have e1 := Nat.eq_of_beq_eq_true h.1
    have e2 := Nat.eq_of_beq_eq_true h.2
    have : s.data.toList = s'.data.toList := bn_inj (by omega) (by omega)
    have : s = s' := by
      cases s; cases s'
      congr 1
      exact Array.toList_inj.1 this
    subst this
    have hss : (s == s) = true := by
      rw [show (s == s) = (s.data == s.data) from rfl]
      exact beq_self_eq_true _
    cases n <;> simpa [Instr.sameBits] using hss
  · simp only [VR] at hk hk'
    subst hk hk'
    cases n <;> simpa [Instr.sameBits] using h
  · cases h

theorem sameL_ok {n : Nat} : ∀ {l l' : List AV} {L L' : List Value}, VRL ρ l L → VRL ρ l' L' → sameL l l' = true → L.length = L'.length ∧ ((L.zip L').all fun (x, y) => Instr.sameBits n x y) = true
  | [], [], L, L', a, b, _ => by
    simp only [VRL] at a b
    subst a b
    simp
  | x :: l, y :: l', L, L', a, b, h => by
    simp only [VRL] at a b
    obtain ⟨V, L, rfl, hv, a⟩ := a
    obtain ⟨V', L', rfl, hv', b⟩ := b
    simp only [sameL, Bool.and_eq_true] at h
    obtain ⟨h1, h2⟩ := sameL_ok (n := n) a b h.2
    refine ⟨by simp [h1], ?_⟩
    rw [List.zip_cons_cons, List.all_cons, Bool.and_eq_true]
    exact ⟨sameS_ok hv hv' h.1, h2⟩
  | [], _ :: _, _, _, _, _, h => by simp [sameL] at h
  | _ :: _, [], _, _, _, _, h => by simp [sameL] at h

theorem sameA_ok {k k' : AV} {K K' : Value} (n : Nat) (hk : VR ρ k K) (hk' : VR ρ k' K') (h : sameA k k' = true) : Instr.sameBits (n + 1) K K' = true := by
  unfold sameA at h
  split at h
  · simp only [VR] at hk hk'
    obtain ⟨C, rfl, a, _⟩ := hk
    obtain ⟨C', rfl, b, _⟩ := hk'
    obtain ⟨h1, h2⟩ := sameL_ok (n := n) a b h
    simp only [Instr.sameBits, Bool.and_eq_true]
    exact ⟨by simpa using h1, h2⟩
  · exact sameS_ok hk hk' h

theorem update_ok (r : Rel ρ base h w) {t : TypeId} {m k v : AV} {M K V : Value} {h' : Hp} (hm : VR ρ m M) (hk : VR ρ k K) (hv : VR ρ v V) (he : updateA P t h m k v = some h') :
    ∃ w', (Instr.mapUpdate t M K V).run P w = .ok () w' ∧ Rel ρ base h' w' ∧ Step ρ h w ρ h' w' := by
  unfold updateA at he
  split at he
  · rename_i key elem b hd
    simp only [VR] at hm
    obtain ⟨l, hb, rfl⟩ := hm
    split at he
    · rename_i es clock hg
      obtain ⟨h0, ces, h1, h2, h3⟩ := r.obj b _ l hg hb
      have hgo : (getObj l.b).run P w = .ok (.map ces clock) w := by simp [getObj, Sem.run, h1]
      have hso : ∀ o, (setObj l.b o).run P w = .ok () { w with heap := w.heap.setIfInBounds l.b o } := fun o => by simp [setObj, Sem.run, h1]
      have hself : ∀ o : Obj, ({ w with heap := w.heap.setIfInBounds l.b o } : World).heap[l.b]? = some o := fun o => by
        show (w.heap.setIfInBounds l.b _)[l.b]? = _
        rw [Array.getElem?_setIfInBounds_self_of_lt (r.lt b l hb)]
      have hent : EntR ρ es ces.toList := ⟨by simpa using h2, fun i x hx => by simpa using h3 i x hx⟩
      cases hc : checkKeyA P 10000 key k with
      | false => rw [hc] at he; cases he
      | true =>
        rw [hc] at he
        simp only [cond_true] at he
        obtain ⟨kd, hkd⟩ := checkKeyA_und hc
        have hck := checkKey_ok (P := P) (w := w) (b := false) hk hc
        cases hf : findA P key k es 0 with
        | none => rw [hf] at he; cases he
        | some R =>
          rw [hf] at he
          obtain ⟨R', f1, f2⟩ := findKey_ok (P := P) (w := w) hkd hk hent hf
          cases R with
          | none =>
            have : R' = none := f2
            subst this
            simp only [Option.some.injEq] at he
            subst he
            obtain ⟨t1, t2⟩ := r.turn (o' := .map (es ++ [(k, v, clock)]) (clock + 1)) (O := .map (ces.push { key := K, val := V, born := clock }) (clock + 1)) hg rfl hb (by simp)
              ⟨h0, _, hself _, by simp [h2], fun i x hx => by
                rcases Nat.lt_or_ge i es.length with q | q
                · rw [List.getElem?_append_left q] at hx
                  obtain ⟨E, a, b⟩ := h3 i x hx
                  exact ⟨E, by rw [Array.getElem?_push_lt (by omega)]; rw [Array.getElem?_eq_getElem (by omega)] at a; exact a, b⟩
                · rw [List.getElem?_append_right q] at hx
                  have hi : i = es.length := by
                    rcases Nat.eq_or_lt_of_le q with q | q
                    · exact q.symm
                    · rw [List.getElem?_eq_none (by simp; omega)] at hx; cases hx
                  subst hi
                  simp at hx
                  subst hx
                  exact ⟨_, by rw [← h2, Array.getElem?_push_size], hk, hv, rfl⟩⟩
            exact ⟨_, by simp [Instr.mapUpdate, r_und hd, hgo, hck, f1, hso], t1, t2⟩
          | some iv =>
            obtain ⟨i, u⟩ := iv
            obtain ⟨U, rfl, hu⟩ := f2
            simp only at he
            cases hq : keyAt es i k with
            | false => rw [hq] at he; cases he
            | true =>
              rw [hq] at he
              simp only [cond_true, Option.some.injEq] at he
              subst he
              unfold keyAt at hq
              split at hq
              · rename_i e hei
                obtain ⟨E, a, b1, b2, b3⟩ := h3 i e hei
                have hsb := sameA_ok 9999 b1 hk hq
                have hkt : (Instr.keyThatStays E.key K).run P w = .ok K w := by simp only [Instr.keyThatStays]; rw [if_pos hsb]; rfl
                obtain ⟨t1, t2⟩ := r.turn (o' := .map (es.modify i fun e => (k, v, e.2.2)) clock) (O := .map (ces.modify i fun e => { e with key := K, val := V }) clock) hg rfl hb (by simp)
                  ⟨h0, _, hself _, by simp [h2], fun j x hx => by
                    rw [List.getElem?_modify] at hx
                    rw [Array.getElem?_modify]
                    by_cases hji : i = j
                    · subst hji
                      rw [hei] at hx
                      simp at hx
                      subst hx
                      exact ⟨{ E with key := K, val := V }, by rw [a]; simp, hk, hv, b3⟩
                    · simp only [if_neg hji] at hx ⊢
                      simp at hx
                      obtain ⟨E', a', b'⟩ := h3 j x hx
                      exact ⟨E', by rw [a'], b'⟩⟩
                exact ⟨_, by simp [Instr.mapUpdate, r_und hd, hgo, hck, f1, a, hkt, hso], t1, t2⟩
              · cases hq
    · cases he
  · cases he

end ops
end Go.Ev
