/- Drawn regions: the plan, and what fits it. -/
import Derived.Test.YtibpgelajmoefaaGreatDoorEv25
import Derived.Orders
namespace Go.Ev
variable {Λ : Laid}

theorem bit_or (a b i : Nat) : bit (Nat.lor a b) i = (bit a i || bit b i) := by
  show Nat.testBit (a ||| b) i = _
  rw [Nat.testBit_or]; rfl
theorem bit_one (a i : Nat) : bit (Nat.shiftLeft 1 a) i = true ↔ i = a := by
  show Nat.testBit (1 <<< a) i = true ↔ _
  rw [Nat.one_shiftLeft, Nat.testBit_two_pow]
  simp only [decide_eq_true_eq]
  exact ⟨Eq.symm, Eq.symm⟩
theorem bit_zero (i : Nat) : bit 0 i = false := Nat.zero_testBit i

/-- Direct edges of an operation. -/
def Dir (o : Oper) (j : Nat) : Prop := ∃ e ∈ o.after.toList, Region.binds .any e = true ∧ e.on = j

theorem bFold_bit {acc : List Nat} {j : Nat} : ∀ {l : List Edge} {s : Nat}, bit (l.foldl (bEdge acc) s) j = true ↔ bit s j = true ∨ ∃ e ∈ l, Region.binds .any e = true ∧ (j = e.on ∨ bit (lk acc e.on) j = true)
  | [], s => by simp
  | e :: l, s => by
    rw [List.foldl_cons, bFold_bit]
    have : bit (bEdge acc s e) j = true ↔ bit s j = true ∨ (Region.binds .any e = true ∧ (j = e.on ∨ bit (lk acc e.on) j = true)) := by
      unfold bEdge
      cases hb : Region.binds .any e with
      | false => simp
      | true => simp only [cond_true, bit_or, Bool.or_eq_true, bit_one, true_and, or_assoc]
    rw [this]
    constructor
    · rintro ((h | h) | ⟨x, hx, h⟩)
      · exact .inl h
      · exact .inr ⟨e, .head _, h⟩
      · exact .inr ⟨x, .tail _ hx, h⟩
    · rintro (h | ⟨x, hx, h⟩)
      · exact .inl (.inl h)
      · cases hx with
        | head => exact .inl (.inr h)
        | tail _ hx => exact .inr ⟨x, hx, h⟩

theorem bOf_bit {acc : List Nat} {o : Oper} {j : Nat} : bit (bOf acc o) j = true ↔ ∃ e ∈ o.after.toList, Region.binds .any e = true ∧ (j = e.on ∨ bit (lk acc e.on) j = true) := by
  unfold bOf
  rw [bFold_bit]
  simp [bit_zero]

theorem befs_spec : ∀ {l : List Oper} {acc : List Nat}, ∃ r, befs l acc = acc ++ r ∧ r.length = l.length ∧ ∀ m o, l[m]? = some o → r[m]? = some (bOf (acc ++ r.take m) o)
  | [], acc => ⟨[], by simp [befs], rfl, by simp⟩
  | o :: l, acc => by
    obtain ⟨r, h1, h2, h3⟩ := befs_spec (l := l) (acc := acc ++ [bOf acc o])
    refine ⟨bOf acc o :: r, by simp [befs, h1], by simp [h2], fun m x hx => ?_⟩
    cases m with
    | zero => simp at hx; subst hx; simp
    | succ m =>
      simp at hx
      have := h3 m x hx
      simpa [List.append_assoc] using this

/-- What waits for what. -/
theorem anc_bit {L : List Oper} (hd : downE L = true) {i : Nat} {o : Oper} (ho : L[i]? = some o) {j : Nat} :
    bit (lk (befs L []) i) j = true ↔ ∃ k, Dir o k ∧ k < i ∧ (j = k ∨ bit (lk (befs L []) k) j = true) := by
  obtain ⟨r, h1, h2, h3⟩ := befs_spec (l := L) (acc := [])
  simp only [List.nil_append] at h1 h3
  have hi := h3 i o ho
  have hlt : i < L.length := (List.getElem?_eq_some_iff.1 ho).1
  rw [h1, show lk r i = bOf (r.take i) o by simp [lk, hi], bOf_bit]
  unfold downE at hd
  rw [List.all_eq_true] at hd
  have hdi := hd i (List.mem_range.2 hlt)
  rw [ho] at hdi
  simp only [List.all_eq_true] at hdi
  have hlk : ∀ k, k < i → lk (r.take i) k = lk r k := fun k hk => by simp [lk, List.getElem?_take, hk]
  constructor
  · rintro ⟨e, he, hb, h⟩
    have hlt := hdi e he
    rw [hb] at hlt
    simp only [Bool.not_true, Bool.false_or, blt_iff] at hlt
    rw [hlk _ hlt] at h
    exact ⟨e.on, ⟨e, he, hb, rfl⟩, hlt, h⟩
  · rintro ⟨k, ⟨e, he, hb, rfl⟩, hlt, h⟩
    rw [← hlk _ hlt] at h
    exact ⟨e, he, hb, h⟩

/-- A set of operations with all that they wait for. -/
def Closed (L : List Oper) (D : Nat → Bool) : Prop := ∀ i o, L[i]? = some o → D i = true → ∀ j, Dir o j → D j = true

theorem Closed.anc {L : List Oper} (hd : downE L = true) {D : Nat → Bool} : ∀ (i : Nat) {o : Oper}, L[i]? = some o → (∀ j, Dir o j → D j = true) → Closed L D → ∀ j, bit (lk (befs L []) i) j = true → D j = true := by
  intro i
  induction i using Nat.strongRecOn with
  | ind i ih =>
    intro o ho hdir hc j hj
    obtain ⟨k, hk, hlt, h⟩ := (anc_bit hd ho).1 hj
    rcases h with rfl | h
    · exact hdir _ hk
    · have hkl : k < L.length := Nat.lt_trans hlt (List.getElem?_eq_some_iff.1 ho).1
      obtain ⟨ok, hok⟩ : ∃ ok, L[k]? = some ok := ⟨L[k], List.getElem?_eq_getElem hkl⟩
      exact ih k hlt hok (hc k ok hok (hdir k hk)) hc j h

theorem entries_mem {bs : List Nat} : ∀ {l : List Oper} {i : Nat} {p : PE}, p ∈ entries bs l i ↔ ∃ m o, l[m]? = some o ∧ p = ⟨i + m, lk bs (i + m), o, clsOf o.op⟩
  | [], i, p => by simp [entries]
  | o :: l, i, p => by
    rw [entries, List.mem_cons, entries_mem]
    constructor
    · rintro (rfl | ⟨m, x, hx, rfl⟩)
      · exact ⟨0, o, by simp, by simp⟩
      · exact ⟨m + 1, x, by simpa using hx, by simp only [show i + 1 + m = i + (m + 1) by omega]⟩
    · rintro ⟨m, x, hx, rfl⟩
      cases m with
      | zero => simp at hx; subst hx; exact .inl (by simp)
      | succ m => exact .inr ⟨m, x, by simpa using hx, by simp only [show i + 1 + m = i + (m + 1) by omega]⟩

theorem pickPE_mem {done : Nat} {ok : Nat → Bool} : ∀ {l : List PE} {p : PE}, pickPE done ok l = some p → p ∈ l
  | [], p, h => by simp [pickPE] at h
  | q :: l, p, h => by
    unfold pickPE at h
    cases hc : (Nat.beq (Nat.land q.b done) q.b && ok q.c) with
    | true => rw [hc] at h; simp only [cond_true, Option.some.injEq] at h; subst h; exact .head _
    | false => rw [hc] at h; exact .tail _ (pickPE_mem h)

theorem planGo_mem : ∀ {n done : Nat} {l : List PE} {p : PE}, p ∈ planGo n done l → p ∈ l
  | 0, _, _, p, h => by simp [planGo] at h
  | n + 1, done, l, p, h => by
    unfold planGo at h
    split at h
    · rename_i q hq
      have hql : q ∈ l := by
        unfold orE at hq
        split at hq
        · rename_i a _ ha; injection hq with hq; subst hq; exact pickPE_mem ha
        · split at hq
          · rename_i a _ ha; injection hq with hq; subst hq; exact pickPE_mem ha
          · exact pickPE_mem hq
      cases h with
      | head => exact hql
      | tail _ h => exact (List.mem_filter.1 (planGo_mem h)).1
    · cases h

theorem fits_spec : ∀ {l before : List PE} {done : Nat}, fits done before l = true → (∀ i, bit done i = true ↔ ∃ q ∈ before, q.i = i) → ∀ A p B, l = A ++ p :: B →
    (∀ j, bit p.b j = true → ∃ q, (q ∈ before ∨ q ∈ A) ∧ q.i = j) ∧ (∀ q, (q ∈ before ∨ q ∈ A) → q.i ≠ p.i) ∧ (∀ q, (q ∈ before ∨ q ∈ A) → 1 < q.c → p.c = 0 ∨ p.c = 3 ∨ bit p.b q.i = true)
  | [], before, done, _, _, A, p, B, h => by cases A <;> cases h
  | x :: l, before, done, hf, hd, A, p, B, h => by
    unfold fits at hf
    simp only [Bool.and_eq_true, List.all_eq_true, Bool.or_eq_true, Bool.not_eq_true'] at hf
    obtain ⟨⟨⟨h1, h2⟩, h3⟩, h4⟩ := hf
    have hland : ∀ j, bit x.b j = true → bit done j = true := by
      intro j hj
      have e := Nat.eq_of_beq_eq_true h1
      have : bit (Nat.land x.b done) j = true := by rw [e]; exact hj
      have h : Nat.testBit (x.b &&& done) j = true := this
      rw [Nat.testBit_and, Bool.and_eq_true] at h
      exact h.2
    cases A with
    | nil =>
      simp only [List.nil_append, List.cons.injEq] at h
      obtain ⟨rfl, rfl⟩ := h
      refine ⟨fun j hj => ?_, fun q hq => ?_, fun q hq hc => ?_⟩
      · obtain ⟨q, hq, e⟩ := (hd j).1 (hland j hj)
        exact ⟨q, .inl hq, e⟩
      · rcases hq with hq | hq
        · intro e
          have := (hd x.i).2 ⟨q, hq, e⟩
          rw [this] at h2
          cases h2
        · cases hq
      · rcases hq with hq | hq
        · have := h3 q hq
          rcases this with ((h | h) | h) | h
          · have : Nat.blt 1 q.c = true := (blt_iff _ _).2 hc
            rw [this] at h; cases h
          · exact .inl (Nat.eq_of_beq_eq_true h)
          · exact .inr (.inl (Nat.eq_of_beq_eq_true h))
          · exact .inr (.inr h)
        · cases hq
    | cons y A =>
      simp only [List.cons_append, List.cons.injEq] at h
      obtain ⟨rfl, rfl⟩ := h
      have hd' : ∀ i, bit (Nat.lor done (Nat.shiftLeft 1 x.i)) i = true ↔ ∃ q ∈ x :: before, q.i = i := by
        intro i
        rw [bit_or, Bool.or_eq_true, hd, bit_one]
        constructor
        · rintro (⟨q, hq, e⟩ | e)
          · exact ⟨q, .tail _ hq, e⟩
          · exact ⟨x, .head _, e.symm⟩
        · rintro ⟨q, hq, e⟩
          cases hq with
          | head => exact .inr e.symm
          | tail _ hq => exact .inl ⟨q, hq, e⟩
      obtain ⟨a, b, c⟩ := fits_spec h4 hd' A p B rfl
      have hm : ∀ {q}, (q ∈ before ∨ q ∈ x :: A) ↔ (q ∈ x :: before ∨ q ∈ A) := by
        intro q
        simp only [List.mem_cons]
        constructor
        · rintro (h | h | h)
          · exact .inl (.inr h)
          · exact .inl (.inl h)
          · exact .inr h
        · rintro ((h | h) | h)
          · exact .inr (.inl h)
          · exact .inl h
          · exact .inr (.inr h)
      exact ⟨fun j hj => let ⟨q, hq, e⟩ := a j hj; ⟨q, hm.2 hq, e⟩, fun q hq => b q (hm.1 hq), fun q hq hc => c q (hm.1 hq) hc⟩

theorem nodup_le : ∀ {n : Nat} {l : List Nat}, l.Nodup → (∀ x ∈ l, x < n) → l.length ≤ n
  | 0, l, _, h => by
    cases l with
    | nil => exact Nat.le_refl _
    | cons x l => exact absurd (h x (.head _)) (Nat.not_lt_zero _)
  | n + 1, l, hn, h => by
    by_cases hm : n ∈ l
    · have := nodup_le (n := n) (l := l.erase n) (hn.erase n) fun x hx => by
        have hx' := (hn.mem_erase_iff).1 hx
        have := h x hx'.2
        have := hx'.1
        omega
      rw [List.length_erase_of_mem hm] at this
      omega
    · have := nodup_le (n := n) hn fun x hx => by
        have := h x hx
        have : x ≠ n := fun e => hm (e ▸ hx)
        omega
      omega

theorem nodup_all : ∀ {n : Nat} {l : List Nat}, l.Nodup → (∀ x ∈ l, x < n) → l.length = n → ∀ i, i < n → i ∈ l
  | 0, _, _, _, _, i, hi => absurd hi (Nat.not_lt_zero _)
  | n + 1, l, hn, h, hl, i, hi => by
    have hm : n ∈ l := by
      apply Classical.byContradiction
      intro hm
      have := nodup_le (n := n) hn fun x hx => by
        have := h x hx
        have : x ≠ n := fun e => hm (e ▸ hx)
        omega
      omega
    by_cases e : i = n
    · rw [e]; exact hm
    · have hall : ∀ x ∈ l.erase n, x < n := fun x hx => by
        have hx' := (hn.mem_erase_iff).1 hx
        have := h x hx'.2
        have := hx'.1
        omega
      exact List.mem_of_mem_erase (nodup_all (hn.erase n) hall (by rw [List.length_erase_of_mem hm]; omega) i (by omega))

/-- What a plan is. -/
structure PlanOk (L : List Oper) (pl : List PE) : Prop where
  down : downE L = true
  mem : ∀ p ∈ pl, L[p.i]? = some p.o ∧ p.b = lk (befs L []) p.i ∧ p.c = clsOf p.o.op
  cover : ∀ i, i < L.length → ∃ p ∈ pl, p.i = i
  anc : ∀ A p B, pl = A ++ p :: B → ∀ j, bit p.b j = true → ∃ q ∈ A, q.i = j
  once : ∀ A p B, pl = A ++ p :: B → ∀ q ∈ A, q.i ≠ p.i
  acts : ∀ A p B, pl = A ++ p :: B → ∀ q ∈ A, 1 < q.c → p.c = 0 ∨ p.c = 3 ∨ bit p.b q.i = true
  tidy : ∀ p ∈ pl, ∀ q ∈ pl, ∀ t ∈ tmpsOf L p.o, q.o.dst = some t → q.i = p.i ∨ bit p.b q.i = true ∨ bit q.b p.i = true
  lone : ∀ p ∈ pl, ∀ q ∈ pl, ∀ t, p.o.dst = some t → q.o.dst = some t → q.i = p.i
  guard : ∀ p ∈ pl, ∀ j want, p.o.guard = some (j, want) → bit p.b j = true

theorem isTmp_iff {d : Option Tmp} {t : Tmp} : isTmp d t = true ↔ d = some t := by
  cases d with
  | none => simp [isTmp]
  | some u => simp [isTmp, beq_dec]

theorem planOf_ok {L : List Oper} {pl : List PE} (h : planOf L = some pl) : PlanOk L pl := by
  unfold planOf at h
  simp only at h
  generalize hpl : planGo L.length 0 (entries (befs L []) L 0) = q at h
  cases hc : (Nat.beq q.length L.length && downE L && fits 0 [] q && (entries (befs L []) L 0).all fun p => tidy L (entries (befs L []) L 0) p && lone1 (entries (befs L []) L 0) p && guarded L p) with
  | false => rw [hc] at h; cases h
  | true =>
    rw [hc] at h
    simp only [cond_true, Option.some.injEq] at h
    subst h
    simp only [Bool.and_eq_true, List.all_eq_true] at hc
    obtain ⟨⟨⟨hlen, hdown⟩, hfit⟩, hall⟩ := hc
    have hlen := Nat.eq_of_beq_eq_true hlen
    have hes : ∀ p ∈ q, p ∈ entries (befs L []) L 0 := fun p hp => planGo_mem (hpl ▸ hp)
    have hfs := fits_spec hfit (fun i => by simp [bit_zero])
    have hmem : ∀ p ∈ q, L[p.i]? = some p.o ∧ p.b = lk (befs L []) p.i ∧ p.c = clsOf p.o.op := fun p hp => by
      obtain ⟨m, o, ho, rfl⟩ := entries_mem.1 (hes p hp)
      simpa using ho
    have honce : ∀ A p B, q = A ++ p :: B → ∀ x ∈ A, x.i ≠ p.i := fun A p B e x hx => (hfs A p B e).2.1 x (.inr hx)
    have hnd : (q.map PE.i).Nodup := by
      have : ∀ (l A : List PE), q = A ++ l → (l.map PE.i).Nodup := by
        intro l
        induction l with
        | nil => intro _ _; simp
        | cons p l ih =>
          intro A hA
          have := ih (A ++ [p]) (by simp [hA])
          rw [List.map_cons, List.nodup_cons]
          refine ⟨fun hm => ?_, this⟩
          obtain ⟨x, hx, e⟩ := List.mem_map.1 hm
          obtain ⟨l1, l2, rfl⟩ := List.append_of_mem hx
          exact honce (A ++ p :: l1) x l2 (by simp [hA]) p (by simp) e.symm
      exact this q [] rfl
    refine ⟨hdown, hmem, fun i hi => ?_, fun A p B e j hj => ?_, honce, fun A p B e x hx hc => (hfs A p B e).2.2 x (.inr hx) hc, fun p hp x hx t ht hd => ?_, fun p hp x hx t hd hd' => ?_, fun p hp j want hg => ?_⟩
    · have := nodup_all hnd (fun x hx => by
        obtain ⟨p, hp, rfl⟩ := List.mem_map.1 hx
        exact (List.getElem?_eq_some_iff.1 (hmem p hp).1).1) (by rw [List.length_map]; exact hlen) i hi
      obtain ⟨p, hp, e⟩ := List.mem_map.1 this
      exact ⟨p, hp, e⟩
    · obtain ⟨x, hx, e⟩ := (hfs A p B e).1 j hj
      rcases hx with hx | hx
      · cases hx
      · exact ⟨x, hx, e⟩
    · have h1 := (hall p (hes p hp)).1.1
      unfold Ev.tidy at h1
      simp only [List.all_eq_true] at h1
      have := h1 x (hes x hx) t ht
      rw [isTmp_iff.2 hd] at this
      simp only [Bool.not_true, Bool.false_or, Bool.or_eq_true] at this
      rcases this with (h | h) | h
      · exact .inl (Nat.eq_of_beq_eq_true h)
      · exact .inr (.inl h)
      · exact .inr (.inr h)
    · have h1 := (hall p (hes p hp)).1.2
      unfold lone1 at h1
      rw [hd] at h1
      simp only [List.all_eq_true] at h1
      have := h1 x (hes x hx)
      rw [isTmp_iff.2 hd'] at this
      simp only [Bool.not_true, Bool.false_or] at this
      exact Nat.eq_of_beq_eq_true this
    · have h1 := (hall p (hes p hp)).2
      unfold guarded at h1
      rw [hg] at h1
      simp only [Bool.and_eq_true] at h1
      exact h1.1

end Go.Ev
