/- New blocks; structs and slices that are built. -/
import Derived.Test.YtibpgelajmoefaaGreatDoorEv5
namespace Go.Ev
variable {Λ : Laid}

section build
variable {P : Program} {ρ : Rho} {base : Bs Λ} {h : Hp} {w : World}

theorem fresh_cells (r : Rel ρ base h w) (hf : ρ h.next = none) {vs : List AV} {L : List Value} (E : List Value) (hv : VRL ρ vs L) (hs : ∀ X ∈ L, scalar X) (t : TypeId) :
    Rel (upd ρ h.next ⟨w.heap.size, 0, (L ++ E).length⟩) base (h.new (.cells vs t false true)) { w with heap := w.heap.push (.cells (L ++ E).toArray t) } ∧
    Step ρ h w (upd ρ h.next ⟨w.heap.size, 0, (L ++ E).length⟩) (h.new (.cells vs t false true)) { w with heap := w.heap.push (.cells (L ++ E).toArray t) } := by
  refine r.fresh (o := .cells vs t false true) hf rfl (by simp) ?_
  refine ⟨(L ++ E).toArray, (0, 0), by simp, by simp, fun _ => rfl, fun _ => rfl, fun i v hi => ?_⟩
  obtain ⟨V, a, b⟩ := (hv.mono (Sub.upd hf)).get i v hi
  refine ⟨V, ?_, b, hs V (List.mem_of_getElem? a)⟩
  have : i < L.length := (List.getElem?_eq_some_iff.1 a).1
  simpa [List.getElem?_append_left this] using a

theorem newVar_run {t : TypeId} {V : Value} : (newVar t V).run P w = .ok ⟨w.heap.size, 0, none⟩ { w with heap := w.heap.push (.cells V.cells t) } := by
  simp [newVar, newRow]

theorem alloc2_ok (r : Rel ρ base h w) (hf : ρ h.next = none) {t : TypeId} {z v : AV} {Z : Value} {h' : Hp} (hz : VR ρ z Z) (he : aAlloc t h z = .val v h') :
    ∃ ρ', (newVar t Z).run P w = .ok ⟨w.heap.size, 0, none⟩ { w with heap := w.heap.push (.cells Z.cells t) } ∧
      Rel ρ' base h' { w with heap := w.heap.push (.cells Z.cells t) } ∧ Step ρ h w ρ' h' { w with heap := w.heap.push (.cells Z.cells t) } ∧ VR ρ' v (.pointer (some ⟨w.heap.size, 0, none⟩)) := by
  unfold aAlloc at he
  cases hc : z.cells with
  | none => rw [hc] at he; simp [aAlloc2] at he
  | some l =>
    rw [hc] at he
    simp only [aAlloc2, OR.val.injEq] at he
    obtain ⟨rfl, rfl⟩ := he
    obtain ⟨a, b⟩ := cells_ok hz hc
    have := fresh_cells r hf [] a b t
    rw [List.append_nil] at this
    simp only [Array.toArray_toList] at this
    refine ⟨_, newVar_run, this.1, this.2, ?_⟩
    simp only [VR]
    exact ⟨_, upd_eq _ _ _, by simp⟩

theorem run_mapM_list {α β : Type} {f : α → Sem β} : ∀ {l : List α} {r : List β}, l.length = r.length → (∀ (i : Nat) (x : α) (y : β), l[i]? = some x → r[i]? = some y → (f x).run P w = .ok y w) →
    (l.mapM f).run P w = .ok r w
  | [], [], _, _ => by simp
  | [], _ :: _, h, _ => by simp at h
  | _ :: _, [], h, _ => by simp at h
  | x :: l, y :: r, h, g => by
    have h0 := g 0 x y rfl rfl
    have ih := run_mapM_list (f := f) (l := l) (r := r) (by simpa using h) fun i a b ha hb => g (i + 1) a b (by simpa using ha) (by simpa using hb)
    simp [List.mapM_cons, h0, ih]

theorem seqL_get {α : Type} : ∀ {l : List (Option α)} {r : List α}, seqL l = some r → l.length = r.length ∧ ∀ (i : Nat) (y : α), r[i]? = some y → l[i]? = some (some y)
  | [], r, h => by simp [seqL] at h; subst h; simp
  | none :: l, r, h => by simp [seqL] at h
  | some a :: l, r, h => by
    simp only [seqL] at h
    cases hl : seqL l with
    | none => rw [hl] at h; simp at h
    | some r' =>
      rw [hl] at h
      simp only [Option.some.injEq] at h
      subst h
      obtain ⟨a1, a2⟩ := seqL_get hl
      refine ⟨by simpa using a1, fun i y hi => ?_⟩
      cases i with
      | zero => simpa using hi
      | succ i => simpa using a2 i y (by simpa using hi)

theorem places_run {fs : Array Field} {pl : List (Nat × Nat)} (h : seqL (fs.toList.map (placeOf P)) = some pl) :
    (fs.mapM fun f : Field => (do pure (f.offset, ← sizeOf f.type) : Sem (Nat × Nat))).run P w = .ok pl.toArray w := by
  obtain ⟨h1, h2⟩ := seqL_get h
  rw [Array.mapM_eq_mapM_toList]
  have := run_mapM_list (P := P) (w := w) (f := fun f : Field => (do pure (f.offset, ← sizeOf f.type) : Sem (Nat × Nat))) (l := fs.toList) (r := pl) (by simpa using h1) (fun i x y hx hy => by
    have := h2 i y hy
    rw [List.getElem?_map, hx] at this
    simp only [Option.map_some, Option.some.injEq] at this
    unfold placeOf at this
    split at this
    · rename_i s hs
      simp only [Option.some.injEq] at this
      subst this
      simp [r_size hs]
    · cases this)
  rw [Sem.run_map, this]
  rfl

theorem foldl_setAll (off : Nat) : ∀ (vs : List Value) (s : Nat) (c : Array Value), (vs.zipIdx s).foldl (fun cs p => cs.setIfInBounds (off + p.2) p.1) c = setAll c (off + s) vs
  | [], s, c => rfl
  | v :: vs, s, c => by
    rw [List.zipIdx_cons, List.foldl_cons, foldl_setAll off vs (s + 1)]
    rfl

theorem fill_ok {pl pl' : Nat → Option (Nat × Nat)} (hp : ∀ i, pl' i = pl i) : ∀ {vs : List (Nat × AV)} {parts : List (Nat × Value)} {l r : List AV} {c : Array Value}, fillL pl l vs = some r → VRL ρ l c.toList →
    (∀ X ∈ c.toList, scalar X) → PartsR ρ vs parts → ∃ C, Instr.fill pl' c parts = some C ∧ VRL ρ r C.toList ∧ (∀ X ∈ C.toList, scalar X)
  | [], [], l, r, c, h, a, b, _ => by simp [fillL] at h; subst h; exact ⟨c, rfl, a, b⟩
  | [], _ :: _, _, _, _, _, _, _, hr => by have := hr.1; simp at this
  | _ :: _, [], _, _, _, _, _, _, hr => by have := hr.1; simp at this
  | (i, v) :: vs, (i', V) :: parts, l, r, c, h, a, b, hr => by
    obtain ⟨rfl, hV, hr⟩ := hr.tail
    simp only [fillL] at h
    split at h
    · rename_i o s hpl
      split at h
      · rename_i us hu
        cases hq : Nat.beq us.length s with
        | false => rw [hq] at h; simp at h
        | true =>
          rw [hq] at h
          simp only [cond_true] at h
          split at h
          · rename_i l' hl
            obtain ⟨c1, c2⟩ := cells_ok hV hu
            have hlen := c1.length
            have hs := Nat.eq_of_beq_eq_true hq
            obtain ⟨hb, _⟩ := lay_ok hl
            have hcl := a.length
            have hroom : o + V.cells.toList.length ≤ c.size := by rw [hlen, ← Array.length_toList, hcl]; exact hb
            obtain ⟨R, hR, hRr⟩ := VRL.lay hl a c1
            rw [setAll_toList hroom] at hR
            simp only [Option.some.injEq] at hR
            subst hR
            have hsc : ∀ X ∈ (setAll c o V.cells.toList).toList, scalar X := by
              intro X hX
              obtain ⟨j, hj, rfl⟩ := List.mem_iff_getElem.1 hX
              have hg := setAll_get V.cells.toList c o j hroom
              have : (setAll c o V.cells.toList)[j]? = some ((setAll c o V.cells.toList).toList[j]) := by
                rw [← Array.getElem?_toList, List.getElem?_eq_getElem hj]
              rw [this] at hg
              split at hg
              · exact c2 _ (List.mem_of_getElem? hg.symm)
              · exact b _ (List.mem_of_getElem? (by simpa using hg.symm))
            obtain ⟨C, h1, h2, h3⟩ := fill_ok hp h hRr hsc hr
            refine ⟨C, ?_, h2, h3⟩
            simp only [Instr.fill, hp, hpl]
            have e0 : V.cells.size = s := by rw [← Array.length_toList, hlen]; exact hs
            have e2 : o + V.cells.size ≤ c.size := by rw [← Array.length_toList (xs := V.cells)]; exact hroom
            have e1 : ¬ (V.cells.size ≠ s ∨ o + V.cells.size > c.size) := by omega
            rw [if_neg (by simpa using e1)]
            rw [← h1]
            congr 1
            rw [← Array.foldl_toList, Array.toList_zipIdx]
            exact foldl_setAll o V.cells.toList 0 c
          · cases h
      · cases h
    · cases h

theorem build_ok {t : TypeId} {d : TypeDesc} {z v : AV} {vs : List (Nat × AV)} {parts : Array (Nat × Value)} {h' : Hp} (hd : P.underlying t = some d) (hz : zT P t = some z) (hp : PartsR ρ vs parts.toList)
    (he : aBuild P h vs z.cells d = .val v h') : h' = h ∧ ∃ V, (Instr.build t parts).run P w = .ok V w ∧ VR ρ v V := by
  obtain ⟨Z, hz1, hz2⟩ := r_zero (P := P) (w := w) (ρ := ρ) hz
  unfold aBuild at he
  split at he
  · rename_i l fs hc
    split at he
    · rename_i pl hpl
      cases hf : fillL (fun i => pl[i]?) l vs with
      | none => rw [hf] at he; simp [aggO, OR.ofV] at he
      | some r =>
        rw [hf] at he
        simp only [aggO, OR.ofV, OR.val.injEq] at he
        obtain ⟨rfl, rfl⟩ := he
        obtain ⟨a, b⟩ := cells_ok hz2 hc
        obtain ⟨C, h1, h2, h3⟩ := fill_ok (pl := fun i => pl[i]?) (pl' := fun i => pl.toArray[i]?) (by simp) hf a b hp
        refine ⟨rfl, .agg C, ?_, ?_⟩
        · simp only [Instr.build, Sem.run_bind, hz1, Result.andThen_ok, r_und hd, places_run hpl]
          rw [show (fun x => pl.toArray[x]?) = (fun i => pl.toArray[i]?) from rfl]
          simp only [h1]
          rfl
        · simp only [VR]
          exact ⟨C, rfl, h2, h3⟩
    · cases he
  · rename_i l n elem hc
    split at he
    · rename_i s hs
      cases hf : fillL (fun i => some (i * s, s)) l vs with
      | none => rw [hf] at he; simp [aggO, OR.ofV] at he
      | some r =>
        rw [hf] at he
        simp only [aggO, OR.ofV, OR.val.injEq] at he
        obtain ⟨rfl, rfl⟩ := he
        obtain ⟨a, b⟩ := cells_ok hz2 hc
        obtain ⟨C, h1, h2, h3⟩ := fill_ok (pl := fun i => some (i * s, s)) (pl' := fun i => some (i * s, s)) (fun _ => rfl) hf a b hp
        refine ⟨rfl, .agg C, ?_, ?_⟩
        · simp only [Instr.build, Sem.run_bind, hz1, Result.andThen_ok, r_und hd, r_size hs, h1]
          rfl
        · simp only [VR]
          exact ⟨C, rfl, h2, h3⟩
    · cases he
  · cases he

theorem repL_length {α : Type} (z : List α) : ∀ n, (repL z n).length = n * z.length
  | 0 => by simp [repL]
  | n + 1 => by simp [repL, repL_length z n, Nat.add_mul, Nat.add_comm]

theorem repL_get {α : Type} (z : List α) : ∀ (n i : Nat), i < n * z.length → (repL z n)[i]? = z[i % z.length]?
  | 0, i, h => by simp at h
  | n + 1, i, h => by
    simp only [repL]
    rw [Nat.add_mul, Nat.one_mul] at h
    by_cases a : i < z.length
    · rw [List.getElem?_append_left a, Nat.mod_eq_of_lt a]
    · rw [List.getElem?_append_right (by omega), repL_get z n (i - z.length) (by omega)]
      congr 1
      exact (Nat.mod_eq_sub_mod (by omega)).symm

theorem VRL.rep {l : List AV} {L : List Value} (a : VRL ρ l L) : ∀ n, VRL ρ (repL l n) (repL L n)
  | 0 => .nil
  | n + 1 => a.append (a.rep n)

theorem mem_rep {α : Type} {z : List α} {x : α} : ∀ {n : Nat}, x ∈ repL z n → x ∈ z
  | 0, h => by simp [repL] at h
  | n + 1, h => by
    simp only [repL, List.mem_append] at h
    exact h.elim id mem_rep

theorem zeros_eq (Z : Array Value) (n : Nat) : ((Array.range (n * Z.size)).map fun i => Z[i % Z.size]!) = (repL Z.toList n).toArray := by
  apply Array.ext_getElem?
  intro i
  by_cases hi : i < n * Z.size
  · have hz : 0 < Z.size := by rcases Nat.eq_zero_or_pos Z.size with a | a; · rw [a] at hi; simp at hi
                               · exact a
    have hm : i % Z.size < Z.size := Nat.mod_lt _ hz
    have := repL_get Z.toList n i (by simpa using hi)
    simp only [Array.length_toList] at this
    simp [hi, this, getElem!_pos, hm]
  · have : (repL Z.toList n).length ≤ i := by rw [repL_length]; simp; omega
    simp [hi, List.getElem?_eq_none this]

theorem buildSlice_ok (r : Rel ρ base h w) (hf : ρ h.next = none) {t : TypeId} {len : Nat} {d : TypeDesc} {v : AV} {vs : List (Nat × AV)} {parts : Array (Nat × Value)} {h' : Hp} (hd : P.underlying t = some d)
    (hp : PartsR ρ vs parts.toList) (he : aBuildSlice P h len vs d = .val v h') :
    ∃ ρ' V w', (Instr.buildSlice t len parts).run P w = .ok V w' ∧ Rel ρ' base h' w' ∧ Step ρ h w ρ' h' w' ∧ VR ρ' v V := by
  unfold aBuildSlice at he
  split at he
  · rename_i elem
    split at he
    · rename_i s hs
      cases hzz : (zT P elem).bind AV.cells with
      | none => rw [hzz] at he; simp at he
      | some z =>
        rw [hzz] at he
        simp only at he
        cases hq : Nat.ble (len * s) 16777216 && Nat.beq z.length s with
        | false => rw [hq] at he; simp at he
        | true =>
          rw [hq] at he
          simp only [cond_true] at he
          rw [Bool.and_eq_true] at hq
          obtain ⟨hq1, hq2⟩ := hq
          have hq1 := Nat.le_of_ble_eq_true hq1
          have hq2 := Nat.eq_of_beq_eq_true hq2
          cases hfl : fillL (fun i => some (i * s, s)) (repL z len) vs with
          | none => rw [hfl] at he; simp [aBuildSlice1] at he
          | some l =>
            rw [hfl] at he
            simp only [aBuildSlice1, OR.val.injEq] at he
            obtain ⟨rfl, rfl⟩ := he
            obtain ⟨zz, hz, hc⟩ := Option.bind_eq_some_iff.1 hzz
            obtain ⟨Z, hz1, hz2⟩ := r_zero (P := P) (w := w) (ρ := ρ) hz
            obtain ⟨a, b⟩ := cells_ok hz2 hc
            have hZs : Z.cells.size = s := by rw [← Array.length_toList, a.length, hq2]
            let c0 : Array Value := (repL Z.cells.toList len).toArray
            obtain ⟨C, h1, h2, h3⟩ := fill_ok (pl := fun i => some (i * s, s)) (pl' := fun i => some (i * s, s)) (c := c0) (fun _ => rfl) hfl (by simpa [c0] using a.rep len) (fun X hX => b X (mem_rep (by simpa [c0] using hX))) hp
            have hCs : C.size = len * s := by
              rw [← Array.length_toList, h2.length]
              have : ∀ {vs : List (Nat × AV)} {l r : List AV}, fillL (fun i => some (i * s, s)) l vs = some r → r.length = l.length := by
                intro vs
                induction vs with
                | nil => intro l r h; simp [fillL] at h; rw [h]
                | cons x vs ih =>
                  intro l r h
                  obtain ⟨i, v⟩ := x
                  simp only [fillL] at h
                  split at h
                  · cases hq : Nat.beq _ s with
                    | false => rw [hq] at h; simp at h
                    | true =>
                      rw [hq] at h
                      simp only [cond_true] at h
                      split at h
                      · rename_i l' hl
                        rw [ih h, lay_length hl]
                      · cases h
                  · cases h
              rw [this hfl, repL_length, hq2]
            have hfc := fresh_cells r hf [] h2 h3 elem
            rw [List.append_nil] at hfc
            simp only [Array.toArray_toList] at hfc
            refine ⟨_, .slice (some ⟨w.heap.size, 0, none⟩) len len, _, ?_, hfc.1, hfc.2, ?_⟩
            · simp only [Instr.buildSlice, Sem.run_bind, r_und hd, Result.andThen_ok, r_size hs]
              have h24 : ¬ (len * s > 2 ^ 24) := by simp; omega
              rw [if_neg h24]
              by_cases h0 : len * s = 0
              · have hc0 : c0 = #[] := by
                  have : c0.size = 0 := by simp [c0, repL_length, hZs, h0]
                  exact Array.eq_empty_of_size_eq_zero this
                rw [hc0] at h1
                have hr0 : ((Array.range (len * s)).map fun i => (#[] : Array Value)[i % (#[] : Array Value).size]!) = #[] := by rw [h0]; simp
                simp only [if_pos h0, pure_bind, hr0, h1]
                rfl
              · have hzr := zeros_eq Z.cells len
                rw [hZs] at hzr
                simp only [if_neg h0, Sem.run_bind, hz1, Sem.run_pure, Result.andThen_ok, hZs, hzr, pure_bind]
                rw [show (repL Z.cells.toList len).toArray = c0 from rfl, h1]
                rfl
            · simp only [VR]
              refine ⟨_, len, 0, upd_eq _ _ _, by simp, Nat.le_refl _, ?_, fun _ => rfl, fun _ => by simp⟩
              simp [hCs]
    · cases he
  · cases he

end build
end Go.Ev
