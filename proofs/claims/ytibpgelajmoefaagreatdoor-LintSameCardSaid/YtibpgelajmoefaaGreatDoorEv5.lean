/- Memory: loads, stores, new blocks, structs. -/
import Derived.Test.YtibpgelajmoefaaGreatDoorEv4
namespace Go.Ev
variable {Λ : Laid}

section cells
variable {P : Program} {w : World}

theorem cell_of {B i : Nat} {c : Array Value} {e : TypeId} {fr : Nat × Nat} (h : w.heap[B]? = some (.cells c e fr)) : w.cell? ⟨B, i, none⟩ = c[i]? := by
  simp [World.cell?, h]

theorem heap_lt {B : Nat} {O : Obj} (h : w.heap[B]? = some O) : ∃ hlt : B < w.heap.size, w.heap[B] = O := Array.getElem?_eq_some_iff.1 h

theorem addr_add (B o i : Nat) : (⟨B, o, none⟩ : Addr).add i = ⟨B, o + i, none⟩ := by
  unfold Addr.add
  split
  · rename_i h; subst h; rfl
  · rfl

/-- A row of cells with others from k on. -/
def setAll (c : Array Value) (k : Nat) : List Value → Array Value
  | [] => c
  | v :: vs => setAll (c.setIfInBounds k v) (k + 1) vs

theorem setAll_size : ∀ (vs : List Value) (c : Array Value) (k : Nat), (setAll c k vs).size = c.size
  | [], _, _ => rfl
  | v :: vs, c, k => by rw [setAll, setAll_size vs]; simp

theorem setAll_get : ∀ (vs : List Value) (c : Array Value) (k j : Nat), k + vs.length ≤ c.size → (setAll c k vs)[j]? = if k ≤ j ∧ j < k + vs.length then vs[j - k]? else c[j]?
  | [], c, k, j, _ => by rw [if_neg (by simp)]; rfl
  | v :: vs, c, k, j, h => by
    simp only [List.length_cons] at h
    rw [setAll, setAll_get vs _ _ _ (by simp; omega)]
    by_cases a : j = k
    · subst a
      rw [if_neg (by omega), if_pos (by simp)]
      simp [show j < c.size by omega]
    · by_cases b : k + 1 ≤ j ∧ j < k + 1 + vs.length
      · rw [if_pos b, if_pos (by simp; omega)]
        rw [show j - k = (j - (k + 1)) + 1 by omega]
        simp
      · rw [if_neg b, if_neg (by simp; omega)]
        rw [Array.getElem?_setIfInBounds_ne (by omega)]

theorem setAll_toList {vs : List Value} {c : Array Value} {k : Nat} (h : k + vs.length ≤ c.size) : lay c.toList k vs = some (setAll c k vs).toList := by
  have hb : Nat.ble (k + vs.length) c.toList.length = true := Nat.ble_eq_true_of_le (by simpa using h)
  obtain ⟨r, hr⟩ : ∃ r, lay c.toList k vs = some r := ⟨_, by unfold lay; rw [hb]; rfl⟩
  rw [hr]
  congr 1
  apply List.ext_getElem?
  intro j
  rw [lay_get hr]
  rw [show (setAll c k vs).toList[j]? = (setAll c k vs)[j]? by simp, setAll_get vs c k j h]
  by_cases a : j < k
  · rw [if_pos a, if_neg (by omega)]; simp
  · by_cases b : j < k + vs.length
    · rw [if_neg a, if_pos b, if_pos (by omega)]
    · rw [if_neg a, if_neg b, if_neg (by omega)]; simp

theorem setCell_eq {B i : Nat} {v : Value} {c : Array Value} {e : TypeId} {fr : Nat × Nat} (h : w.heap[B]? = some (.cells c e fr)) :
    w.setCell ⟨B, i, none⟩ v = { w with heap := w.heap.setIfInBounds B (.cells (c.setIfInBounds i v) e fr) } := by
  unfold World.setCell
  congr 1
  apply Array.ext_getElem?
  intro j
  rw [Array.getElem?_modify]
  by_cases hj : B = j
  · subst hj
    obtain ⟨hlt, hB⟩ := heap_lt h
    simp [hB, hlt]
  · rw [if_neg hj, Array.getElem?_setIfInBounds_ne hj]

theorem scalar_one {v : Value} (h : scalar v) : v.oneCell' = true := by cases v <;> simp_all [scalar, Value.oneCell']

theorem run_storeCells {B : Nat} {e : TypeId} : ∀ (vs : List Value) (o i : Nat) (c : Array Value) (w : World), w.heap[B]? = some (.cells c e (0, 0)) → (∀ v ∈ vs, scalar v) → o + i + vs.length ≤ c.size →
    (storeCells ⟨B, o, none⟩ vs i).run P w = .ok () { w with heap := w.heap.setIfInBounds B (.cells (setAll c (o + i) vs) e (0, 0)) }
  | [], o, i, c, w, h, _, _ => by
    simp only [storeCells, Sem.run_pure, setAll]
    congr 1
    obtain ⟨hlt, hB⟩ := heap_lt h
    have : w.heap.setIfInBounds B (.cells c e (0, 0)) = w.heap := by
      apply Array.ext_getElem?
      intro j
      by_cases hj : B = j
      · subst hj; simp [hB, hlt]
      · rw [Array.getElem?_setIfInBounds_ne hj]
    rw [this]
  | v :: vs, o, i, c, w, h, hs, hl => by
    simp only [List.length_cons] at hl
    obtain ⟨hlt, hB⟩ := heap_lt h
    have h1 : w.cell? ⟨B, o + i, none⟩ = some c[o + i] := by rw [cell_of h]; simp
    have h2 : w.frozen? ⟨B, o + i, none⟩ = false := by simp [World.frozen?, h]
    simp only [storeCells, Sem.run_bind, addr_add]
    rw [run_store P w _ v .plain (scalar_one (hs v (by simp)))]
    simp only [h1, h2, Bool.false_eq_true, if_false, Result.andThen_ok]
    rw [setCell_eq h]
    rw [run_storeCells (e := e) vs o (i + 1) (c.setIfInBounds (o + i) v) _ (by simp [hlt]) (fun x hx => hs x (by simp [hx])) (by simp; omega)]
    simp only [setAll, Array.setIfInBounds_setIfInBounds, Nat.add_assoc]
end cells

section mem
variable {P : Program} {ρ : Rho} {base : Bs Λ} {h : Hp} {w : World}

theorem VR.ptr {b o : Nat} {A : Value} (r : VR ρ (.ptr b o) A) : ∃ l, ρ b = some l ∧ A = .pointer (some ⟨l.b, l.o + o, none⟩) := by simpa only [VR] using r

theorem loadC_ok {t : TypeId} {vs : List AV} {o : Nat} {v : AV} {l : Loc} {c : Array Value} {e : TypeId} {fr : Nat × Nat} (hh : w.heap[l.b]? = some (.cells c e fr))
    (hc : ∀ (i : Nat) (v : AV), vs[i]? = some v → ∃ V, c[l.o + i]? = some V ∧ VR ρ v V ∧ scalar V) (he : loadC P t vs o = some v) :
    ∃ V, (loadVar t ⟨l.b, l.o + o, none⟩).run P w = .ok V w ∧ VR ρ v V := by
  unfold loadC at he
  split at he
  · rename_i ha
    split at he
    · rename_i n hn
      split at he
      · rename_i r hr
        simp only [Option.some.injEq] at he
        subst he
        obtain ⟨h1, h2⟩ := cut_ok hr
        have hg : ∀ (i : Nat) (v : AV), r[i]? = some v → ∃ V, c[l.o + o + i]? = some V ∧ VR ρ v V ∧ scalar V := by
          intro i v hi
          have hi' : i < n := by rw [← h2]; exact (List.getElem?_eq_some_iff.1 hi).1
          rw [h1, List.getElem?_take, if_pos hi', List.getElem?_drop] at hi
          have := hc (o + i) v hi
          rwa [← Nat.add_assoc] at this
        let L := (c.toList.drop (l.o + o)).take n
        have hLg : ∀ i, i < n → L[i]? = c[l.o + o + i]? := by
          intro i hi
          simp only [L, List.getElem?_take, if_pos hi, List.getElem?_drop, Array.getElem?_toList]
        have hL : L.length = r.length := by
          rw [h2]
          rcases Nat.eq_zero_or_pos n with z | z
          · simp only [L, z, List.take_zero, List.length_nil]
          · have hlast : (n - 1) < r.length := by omega
            obtain ⟨V, hV, _⟩ := hg (n - 1) r[n - 1] (List.getElem?_eq_getElem hlast)
            have : l.o + o + (n - 1) < c.size := (Array.getElem?_eq_some_iff.1 hV).1
            simp only [L, List.length_take, List.length_drop, Array.length_toList]
            omega
        refine ⟨.agg L.toArray, ?_, ?_⟩
        · simp only [loadVar, Sem.run_bind, r_isAgg ha, Result.andThen_ok, if_true, r_size hn]
          have hll := run_loadCells_list (P := P) w ⟨l.b, l.o + o, none⟩ L (fun j v hj => by
            rw [addr_add, cell_of hh]
            have : j < n := by rw [← h2, ← hL]; exact (List.getElem?_eq_some_iff.1 hj).1
            rw [← hLg j this]; exact hj)
          rw [hL, h2] at hll
          rw [hll]
          rfl
        · simp only [VR]
          refine ⟨L.toArray, rfl, .of_get (by simpa using hL) (fun i v hi => ?_), ?_⟩
          · obtain ⟨V, a, b, _⟩ := hg i v hi
            have : i < n := by rw [← h2]; exact (List.getElem?_eq_some_iff.1 hi).1
            exact ⟨V, by simpa using (hLg i this).trans a, b⟩
          · intro X hX
            have hX : X ∈ L := hX
            obtain ⟨i, hi, rfl⟩ := List.mem_iff_getElem.1 hX
            have hin : i < n := by rw [← h2, ← hL]; exact hi
            obtain ⟨V, a, _, s⟩ := hg i r[i] (List.getElem?_eq_getElem (by rw [← hL]; exact hi))
            have := (hLg i hin).trans a
            rw [List.getElem?_eq_getElem hi] at this
            simp only [Option.some.injEq] at this
            rw [this]; exact s
      · cases he
    · cases he
  · rename_i ha
    split at he
    · rename_i x rest hx
      simp only [Option.some.injEq] at he
      subst he
      have : vs[o]? = some x := by
        have := List.getElem?_drop (xs := vs) (i := o) (j := 0)
        rw [hx] at this
        simpa using this.symm
      obtain ⟨V, a, b, _⟩ := hc o x this
      exact ⟨V, by simp [loadVar, r_isAgg ha, cell_of hh, a], b⟩
    · cases he
  · cases he

theorem load_ok (r : Rel ρ base h w) {t : TypeId} {a v : AV} {A : Value} (hA : VR ρ a A) (he : load P t h a = some v) : ∃ V, (Instr.loadAt t A).run P w = .ok V w ∧ VR ρ v V := by
  unfold load at he
  split at he
  · rename_i b o
    obtain ⟨l, hb, rfl⟩ := hA.ptr
    split at he
    · rename_i vs e ro z hg
      obtain ⟨c, fr, h1, h2, h3, h5, h4⟩ := r.obj b _ l hg hb
      obtain ⟨V, hr, hv⟩ := loadC_ok h1 h4 he
      exact ⟨V, by simpa [Instr.loadAt, Instr.sureAddr] using hr, hv⟩
    · cases he
  · cases he

theorem store_ok (r : Rel ρ base h w) {t : TypeId} {a v : AV} {A V : Value} {h' : Hp} (hA : VR ρ a A) (hV : VR ρ v V) (he : store P t h a v = some h') :
    ∃ w', (Instr.storeAt t A V).run P w = .ok () w' ∧ Rel ρ base h' w' ∧ Step ρ h w ρ h' w' := by
  unfold store at he
  split at he
  · rename_i b o
    obtain ⟨l, hb, rfl⟩ := hA.ptr
    split at he
    · rename_i vs e z hg
      split at he
      · rename_i n hn
        split at he
        · rename_i us hu
          cases hq : Nat.beq n us.length && Nat.blt 0 n with
          | false => rw [hq] at he; simp at he
          | true =>
            rw [hq] at he
            simp only [cond_true] at he
            rw [Bool.and_eq_true] at hq
            obtain ⟨hq, hpos⟩ := hq
            have hpos : 0 < n := by simpa [Nat.blt_eq] using hpos
            split at he
            · rename_i l' hl
              simp only [Option.some.injEq] at he
              subst he
              obtain ⟨c, fr, h1, h2, h3, h5, h4⟩ := r.obj b _ l hg hb
              have hfr := h3 rfl
              subst hfr
              obtain ⟨hc1, hc2⟩ := cells_ok hV hu
              have hlen : V.cells.toList.length = n := by rw [hc1.length]; exact (Nat.eq_of_beq_eq_true hq).symm
              obtain ⟨hb1, _⟩ := lay_ok hl
              have hroom : l.o + o + 0 + V.cells.toList.length ≤ c.size := by
                have hnu := Nat.eq_of_beq_eq_true hq
                rw [hc1.length]
                obtain ⟨X, hX, _⟩ := h4 (o + us.length - 1) vs[o + us.length - 1] (List.getElem?_eq_getElem (by omega))
                have := (Array.getElem?_eq_some_iff.1 hX).1
                omega
              have hst := run_storeCells (P := P) V.cells.toList (l.o + o) 0 c w h1 hc2 hroom
              have htr := r.turn (o' := .cells l' e false z) (O := .cells (setAll c (l.o + o + 0) V.cells.toList) e (0, 0)) hg rfl hb (by simp) (by
                have hlt := r.lt b l hb
                refine ⟨setAll c (l.o + o + 0) V.cells.toList, (0, 0), by simp [hlt], by rw [setAll_size]; exact h2, fun _ => rfl, h5, fun i x hx => ?_⟩
                rw [lay_get hl] at hx
                rw [setAll_get _ _ _ _ hroom]
                by_cases q1 : i < o
                · rw [if_pos q1] at hx
                  rw [if_neg (by omega)]
                  exact h4 i x hx
                · rw [if_neg q1] at hx
                  by_cases q2 : i < o + us.length
                  · rw [if_pos q2] at hx
                    rw [if_pos (by rw [hc1.length]; omega)]
                    obtain ⟨X, a, b⟩ := hc1.get _ x hx
                    rw [show l.o + i - (l.o + o + 0) = i - o by omega]
                    exact ⟨X, a, b, hc2 X (List.mem_of_getElem? a)⟩
                  · rw [if_neg q2] at hx
                    rw [if_neg (by rw [hc1.length]; omega)]
                    exact h4 i x hx)
              refine ⟨_, ?_, htr.1, htr.2⟩
              simp only [Instr.storeAt, Instr.sureAddr, Sem.run_bind, Sem.run_pure, Result.andThen_ok, storeVar, r_size hn]
              have : ¬ (V.cells.size ≠ n) := by simp [← Array.length_toList, hlen]
              rw [if_neg this]
              exact hst
            · cases he
        · cases he
      · cases he
    · cases he
  · cases he

end mem
end Go.Ev
