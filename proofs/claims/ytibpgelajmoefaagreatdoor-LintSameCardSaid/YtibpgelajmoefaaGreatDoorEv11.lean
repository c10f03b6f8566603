/- Appends. -/
import Derived.Test.YtibpgelajmoefaaGreatDoorEv10
namespace Go.Ev
variable {Λ : Laid}

theorem growBy_le (n : Nat) : ∀ (r c : Nat), Builtin.growBy n r c ≤ max c (2 * n + 192)
  | 0, c => by simp [Builtin.growBy]; omega
  | r + 1, c => by
    simp only [Builtin.growBy]
    split
    · omega
    · have := growBy_le n r (c + (c + 768) / 4)
      omega

theorem nextcap_le {n c : Nat} (h : c < n) : Builtin.nextslicecap n c ≤ 2 * n + 192 := by
  unfold Builtin.nextslicecap
  split
  · omega
  · split
    · omega
    · have := growBy_le n 4 c
      omega

section ops
variable {P : Program} {ρ : Rho} {base : Bs Λ} {h : Hp} {w : World}

/-- A block's cells go on under another id. -/
theorem Rel.move (r : Rel ρ base h w) (hf : ρ h.next = none) {b : Nat} {o o' : AO} {l l' : Loc} {O : Obj} (hg : h.get b = some o) (hr : rw o = true) (hb : ρ b = some l) (hl : l'.b = l.b) (hro : ∀ vs e z, o' ≠ .cells vs e true z)
    (ho : ObjR (upd ρ h.next l') { w with heap := w.heap.setIfInBounds l.b O } l' o') (hL : isLp o = true → ∃ L', O = .loop L' := by simp [isLp]) :
    Rel (upd ρ h.next l') base ((h.set b .dead).new o') { w with heap := w.heap.setIfInBounds l.b O } ∧ Step ρ h w (upd ρ h.next l') ((h.set b .dead).new o') { w with heap := w.heap.setIfInBounds l.b O } := by
  have hs : Sub ρ (upd ρ h.next l') := .upd hf
  obtain ⟨r1, s1⟩ := r.turn (o' := .dead) (O := O) hg hr hb (by simp) trivial hL
  have hnx : (h.set b .dead).next = h.next := rfl
  have hk : ∀ {j k x}, ((h.set b .dead).new o').get j = some x → upd ρ h.next l' j = some k → j ≠ h.next → (h.set b .dead).get j = some x ∧ ρ j = some k := fun {j k x} g e n => by
    rw [Hp.get_new_ne (by rw [hnx]; exact n)] at g; rw [upd_ne n] at e; exact ⟨g, e⟩
  have hdead : ∀ {j x k}, (h.set b .dead).get j = some x → rw x = true → ρ j = some k → k.b ≠ l.b := by
    intro j x k g rx e hkl
    by_cases hj : j = b
    · subst hj; have := Hp.get_set_eq g; subst this; simp [rw] at rx
    · rw [Hp.get_set_ne hj] at g
      exact hj (r.inj j b x o k l g hg rx hr e hb hkl)
  have hlt := r.lt b l hb
  refine ⟨⟨?_, ?_, ?_, ?_, ?_, ?_, ?_, fun g hg => (r.glob g hg).imp fun c e => hs _ _ e, r1.laid⟩, ⟨hs, ?_, Nat.le_succ _, rfl, rfl, rfl, rfl, s1.size, s1.loops, s1.frame, ?_⟩⟩
  · intro j x k g e
    by_cases n : j = h.next
    · subst n
      rw [upd_eq] at e; cases e
      rw [Hp.get_new_eq (h := h.set b .dead) g]; exact ho
    · obtain ⟨g, e⟩ := hk g e n
      exact (r1.obj j x k g e).mono hs rfl
  · intro j x k g rx e
    by_cases n : j = h.next
    · subst n
      rw [upd_eq] at e; cases e
      rw [hl]; exact r.low b o l hg hr hb
    · obtain ⟨g, e⟩ := hk g e n
      exact r1.low j x k g rx e
  · intro j vs t z k g e
    by_cases n : j = h.next
    · subst n
      exact absurd (Hp.get_new_eq (h := h.set b .dead) g).symm (hro vs t z)
    · obtain ⟨g, e⟩ := hk g e n
      exact r1.ro j vs t z k g e
  · intro j j' x x' k k' g g' rx rx' e e' hkk
    by_cases n : j = h.next <;> by_cases n' : j' = h.next
    · rw [n, n']
    · subst n
      rw [upd_eq] at e; cases e
      obtain ⟨g', e'⟩ := hk g' e' n'
      exact absurd (hkk.symm.trans hl) (hdead g' rx' e')
    · subst n'
      rw [upd_eq] at e'; cases e'
      obtain ⟨g, e⟩ := hk g e n
      exact absurd (hkk.trans hl) (hdead g rx e)
    · obtain ⟨g, e⟩ := hk g e n
      obtain ⟨g', e'⟩ := hk g' e' n'
      exact r1.inj j j' x x' k k' g g' rx rx' e e' hkk
  · intro j k e
    by_cases n : j = h.next
    · subst n; rw [upd_eq] at e; cases e
      rw [hl]; exact r1.lt b l hb
    · rw [upd_ne n] at e; exact r1.lt j k e
  · intro j x g
    by_cases n : j = h.next
    · subst n; exact Nat.lt_succ_self _
    · rw [Hp.get_new_ne (by rw [hnx]; exact n)] at g; exact Nat.lt_succ_of_lt (r1.dom j x g)
  · exact r1.bs
  · intro j hj
    exact upd_ne (by rw [Hp.next_new, hnx] at hj; omega)
  · intro j x k g rx e
    by_cases n : j = h.next
    · subst n; rw [upd_eq] at e; cases e
      exact .inr ⟨b, o, l, hg, hr, hb, hl.symm⟩
    · obtain ⟨g, e⟩ := hk g e n
      rcases s1.img j x k g rx e with q | q
      · exact .inl q
      · exact .inr q

theorem bytesOfS_ok : ∀ (l : List UInt8), VRL ρ (bytesOfS l.length (bn l)) (l.map fun b => .int .u8 b.toNat)
  | [] => by simpa [bytesOfS] using VRL.nil
  | a :: l => by
    have ha := a.toNat_lt
    simp only [List.length_cons, bytesOfS, List.map_cons]
    have h1 : Nat.land (bn (a :: l)) 255 = a.toNat := by
      show bn (a :: l) &&& 255 = _
      rw [show (255 : Nat) = 2 ^ 8 - 1 from rfl, Nat.and_two_pow_sub_one_eq_mod]
      simp only [bn]; omega
    have h2 : Nat.shiftRight (bn (a :: l)) 8 = bn l := by
      show bn (a :: l) >>> 8 = _
      rw [Nat.shiftRight_eq_div_pow]
      simp only [bn]; omega
    rw [h1, h2]
    exact .cons (by simp only [VR]; rfl) (bytesOfS_ok l)

theorem firstCells_ok {base : Bs Λ} (r : Rel ρ base h w) {b o n : Nat} {l : Loc} {vs new : List AV} {t : TypeId} {ro z : Bool} {p : Nat} (hb : ρ b = some l) (hg : h.get b = some (.cells vs t ro z)) (hc : cut vs o n = some new)
    (hp : n ≠ 0 → p = l.o + o) :
    ∃ L, VRL ρ new L ∧ (∀ Y ∈ L, scalar Y) ∧ L.length = n ∧ ∀ w' : World, w'.heap = w.heap → (loadCells ⟨l.b, p, none⟩ n).run P w' = .ok L.toArray w' := by
  obtain ⟨C, fr, h1, h2, h3, h5, h4⟩ := r.obj b _ l hg hb
  obtain ⟨q1, q2⟩ := cut_ok hc
  rcases Nat.eq_zero_or_pos n with hn | hn
  · subst hn
    have : new = [] := List.eq_nil_of_length_eq_zero q2
    subst this
    exact ⟨[], .nil, by simp, rfl, fun w' _ => rfl⟩
  · have hp := hp (by omega)
    subst hp
    have hgt : ∀ (i : Nat) (v : AV), new[i]? = some v → ∃ V, C[l.o + o + i]? = some V ∧ VR ρ v V ∧ scalar V := by
      intro i v hi
      have hi' : i < n := by rw [← q2]; exact (List.getElem?_eq_some_iff.1 hi).1
      rw [q1, List.getElem?_take, if_pos hi', List.getElem?_drop] at hi
      have := h4 (o + i) v hi
      rwa [← Nat.add_assoc] at this
    let L := (C.toList.drop (l.o + o)).take n
    have hLg : ∀ i, i < n → L[i]? = C[l.o + o + i]? := by
      intro i hi
      simp only [L, List.getElem?_take, if_pos hi, List.getElem?_drop, Array.getElem?_toList]
    have hL : L.length = n := by
      obtain ⟨V, hV, _⟩ := hgt (n - 1) new[n - 1] (List.getElem?_eq_getElem (by omega))
      have : l.o + o + (n - 1) < C.size := (Array.getElem?_eq_some_iff.1 hV).1
      simp only [L, List.length_take, List.length_drop, Array.length_toList]
      omega
    refine ⟨L, .of_get (by omega) (fun i v hi => ?_), ?_, hL, ?_⟩
    · obtain ⟨V, a, b, _⟩ := hgt i v hi
      exact ⟨V, (hLg i (by rw [← q2]; exact (List.getElem?_eq_some_iff.1 hi).1)).trans a, b⟩
    · intro Y hY
      obtain ⟨i, hi, rfl⟩ := List.mem_iff_getElem.1 hY
      obtain ⟨V, a, _, s⟩ := hgt i new[i] (List.getElem?_eq_getElem (by omega))
      have := (hLg i (by omega)).trans a
      rw [List.getElem?_eq_getElem hi] at this
      simp only [Option.some.injEq] at this
      rw [this]; exact s
    · intro w' hw'
      have hll := run_loadCells_list (P := P) w' ⟨l.b, l.o + o, none⟩ L (fun j v hj => by
        rw [addr_add, cell_of (w := w') (by rw [hw']; exact h1)]
        have : j < n := by rw [← hL]; exact (List.getElem?_eq_some_iff.1 hj).1
        rw [← hLg j this]; exact hj)
      rw [hL] at hll
      exact hll

theorem loadCells_zero (a : Addr) : (loadCells a 0).run P w = .ok #[] w := rfl

theorem srcA_ok {base : Bs Λ} (r : Rel ρ base h w) {size k : Nat} {new : List AV} {x : AV} {X : Value} (hx : VR ρ x X) (he : srcA h size x = some (k, new)) :
    ∃ L, VRL ρ new L ∧ (∀ Y ∈ L, scalar Y) ∧ L.length = k * size ∧ (Builtin.lenOf X).run P w = .ok k w ∧
      ∀ w' : World, w'.heap = w.heap → (Builtin.firstCells size k X).run P w' = .ok L.toArray w' := by
  unfold srcA at he
  split at he
  · simp only [Option.some.injEq, Prod.mk.injEq] at he
    obtain ⟨rfl, rfl⟩ := he
    simp only [VR] at hx
    subst hx
    exact ⟨[], .nil, by simp, by simp, rfl, fun w' _ => rfl⟩
  · rename_i n v
    cases hq1 : Nat.beq size 1 with
    | false => rw [hq1] at he; simp at he
    | true =>
    rw [hq1] at he
    have hs1 := Nat.eq_of_beq_eq_true hq1
    subst hs1
    simp only [cond_true, Option.some.injEq, Prod.mk.injEq] at he
    obtain ⟨rfl, rfl⟩ := he
    obtain ⟨s, rfl, rfl, rfl⟩ := hx.str
    have hsz : s.data.toList.length = s.size := Array.length_toList
    refine ⟨_, bytesOfS_ok s.data.toList, by simp [scalar], by simp, ?_, fun w' _ => ?_⟩
    · rw [hsz]; rfl
    · have : s.extract 0 s.data.toList.length = s := by
        rw [hsz]
        apply ByteArray.ext
        rw [ByteArray.data_extract]
        exact Array.extract_size
      simp only [Builtin.firstCells, this, Sem.run_pure]
      congr 1
      apply Array.ext'
      simp
  · rename_i b o n e' c
    obtain ⟨l, cap, p, e1, rfl, h1, h2, h3, h4⟩ := hx.slice
    cases hq : Nat.beq n 0 with
    | true =>
      rw [hq] at he
      simp only [cond_true, Option.some.injEq, Prod.mk.injEq] at he
      obtain ⟨rfl, rfl⟩ := he
      have := Nat.eq_of_beq_eq_true hq
      subst this
      exact ⟨[], .nil, by simp, by simp, rfl, fun w' _ => by simp [Builtin.firstCells, loadCells_zero]⟩
    | false =>
      rw [hq] at he
      simp only [cond_false] at he
      have hn : n ≠ 0 := by
        intro h0; subst h0; simp at hq
      split at he
      · rename_i vs t ro z hg
        cases hqe : Nat.beq size e' with
        | false => rw [hqe] at he; simp at he
        | true =>
          rw [hqe] at he
          simp only [cond_true] at he
          split at he
          · rename_i r' hr'
            simp only [Option.some.injEq, Prod.mk.injEq] at he
            obtain ⟨rfl, rfl⟩ := he
            obtain ⟨L, a1, a2, a3, a4⟩ := firstCells_ok (P := P) r e1 hg hr' (p := p) (fun _ => h4 (.inl hn))
            exact ⟨L, a1, a2, a3, rfl, fun w' hw => by simpa [Builtin.firstCells] using a4 w' hw⟩
          · cases he
      · cases he
  · cases he

/-- What 'append' adds: its source, or so many zeros. -/
theorem src_ok {base : Bs Λ} (r : Rel ρ base h w) {elem xt : TypeId} {xd : TypeDesc} {size k : Nat} {new : List AV} {x : AV} {X : Value} (hs : szT P elem = some size) (hxd : P.underlying xt = some xd) (hx : VR ρ x X)
    (he : (if isIntD xd = true then srcZ P elem x else srcA h size x) = some (k, new)) :
    ∃ L, VRL ρ new L ∧ (∀ Y ∈ L, scalar Y) ∧ L.length = k * size ∧
      (if isIntD xd = true then X = .int .i64 (Int.ofNat k) ∧ k ≤ 1000000 ∧ ∃ Z : Value, (∀ w' : World, (zeroValue elem).run P w' = .ok Z w') ∧ L.toArray = Builtin.zeroCells Z.cells k
       else (Builtin.lenOf X).run P w = .ok k w ∧ ∀ w' : World, w'.heap = w.heap → (Builtin.firstCells size k X).run P w' = .ok L.toArray w') := by
  by_cases hi : isIntD xd = true
  · rw [if_pos hi] at he
    simp only [if_pos hi]
    unfold srcZ at he
    split at he
    · rename_i n
      cases hq : Nat.ble n 1000000 with
      | false => rw [hq] at he; simp at he
      | true =>
        rw [hq] at he
        simp only [cond_true] at he
        split at he
        · rename_i z s hz hsz
          rw [hs] at hsz
          cases hsz
          cases hq2 : Nat.beq z.length size with
          | false => rw [hq2] at he; simp at he
          | true =>
            rw [hq2] at he
            simp only [cond_true, Option.some.injEq, Prod.mk.injEq] at he
            obtain ⟨rfl, rfl⟩ := he
            have hzl := Nat.eq_of_beq_eq_true hq2
            obtain ⟨zz, hz0, hc⟩ := Option.bind_eq_some_iff.1 hz
            obtain ⟨Z, hz1, hz2⟩ := r_zero (P := P) (w := w) (ρ := ρ) hz0
            obtain ⟨a, b⟩ := cells_ok hz2 hc
            simp only [VR] at hx
            refine ⟨repL Z.cells.toList n, a.rep n, fun Y hY => b Y (mem_rep hY), by rw [repL_length, a.length, hzl], hx, Nat.le_of_ble_eq_true hq, Z, fun w' => ?_, ?_⟩
            · unfold zT at hz0
              split at hz0
              · rename_i i hi'
                split at hz0
                · rename_i Z' hZ'
                  have e1 : (zeroValue elem).run P w = .ok Z' w := by simp [zeroValue, typeInfo, hi', hZ']
                  rw [hz1] at e1
                  injection e1 with e1
                  subst e1
                  simp [zeroValue, typeInfo, hi', hZ']
                · cases hz0
              · cases hz0
            · unfold Builtin.zeroCells
              exact (zeros_eq Z.cells n).symm
        · cases he
    · cases he
  · rw [if_neg hi] at he
    simp only [if_neg hi]
    obtain ⟨L, a1, a2, a3, a4, a5⟩ := srcA_ok (P := P) r hx he
    exact ⟨L, a1, a2, a3, a4, a5⟩

end ops
end Go.Ev
