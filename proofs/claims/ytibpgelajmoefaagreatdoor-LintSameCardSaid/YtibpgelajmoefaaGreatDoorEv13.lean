/- Conversions, interfaces, fields, places of fields, tuples. -/
import Derived.Test.YtibpgelajmoefaaGreatDoorEv12
namespace Go.Ev
variable {Λ : Laid}

section ops
variable {P : Program} {ρ : Rho} {base : Bs Λ} {h : Hp} {w : World}

theorem rowAt_mono {p : Program} {fits : TypeId → Bool} {d : Nat} {e : TypeId} {c c' off n : Nat} (hc : c ≤ c') (h : rowAt p fits d e c off n = true) : rowAt p fits d e c' off n = true := by
  cases d with
  | zero => simp [rowAt] at h
  | succ d =>
    simp only [rowAt] at h ⊢
    split at h
    · cases h
    · rename_i hs
      rw [if_neg hs]
      simp only [Bool.or_eq_true, Bool.and_eq_true, decide_eq_true_eq] at h ⊢
      rcases h with ⟨⟨h1, h2⟩, h3⟩ | ⟨h1, h2⟩
      · exact .inl ⟨⟨h1, by omega⟩, h3⟩
      · exact .inr ⟨by omega, h2⟩

theorem liesAt_mono {p : Program} : ∀ {d : Nat} {e : TypeId} {c c' off : Nat} {u : TypeId} {n : Nat}, c ≤ c' → liesAt p d e c off u n = true → liesAt p d e c' off u n = true
  | 0, _, _, _, _, _, _, _, h => by simp [liesAt] at h
  | d + 1, e, c, c', off, u, n, hc, h => by
    simp only [liesAt, Bool.or_eq_true] at h ⊢
    rcases h with h | h
    · exact .inl (rowAt_mono hc h)
    · refine .inr ?_
      split at h
      · exact liesAt_mono hc h
      · cases h

theorem ObjR.len {l : Loc} {vs : List AV} {e : TypeId} {ro z : Bool} (r : ObjR ρ w l (.cells vs e ro z)) : ∃ c fr, w.heap[l.b]? = some (.cells c e fr) ∧ c.size = l.c ∧ (vs ≠ [] → l.o + vs.length ≤ c.size) := by
  obtain ⟨c, fr, h1, h2, _, _, h4⟩ := r
  refine ⟨c, fr, h1, h2, fun hn => ?_⟩
  have hp : 0 < vs.length := List.length_pos_iff.2 hn
  obtain ⟨V, hV, _⟩ := h4 (vs.length - 1) (vs[vs.length - 1]'(by omega)) (List.getElem?_eq_getElem _)
  have := (Array.getElem?_eq_some_iff.1 hV).1
  omega

theorem shape_run {B : Nat} {c : Array Value} {e : TypeId} {fr : Nat × Nat} (h : w.heap[B]? = some (.cells c e fr)) : (shape B).run P w = .ok (some (e, c.size)) w := by
  simp [shape, Sem.run, World.shape?, h]
theorem viewAt_run {B : Nat} {c : Array Value} {e : TypeId} {fr : Nat × Nat} (h : w.heap[B]? = some (.cells c e fr)) : (viewAt B).run P w = .ok none w := by
  simp [viewAt, shape_run h]
theorem seenAt_run {a : Addr} {c : Array Value} {e : TypeId} {fr : Nat × Nat} (h : w.heap[a.block]? = some (.cells c e fr)) : (Conv.seenAt a).run P w = .ok a w := by
  simp [Conv.seenAt, viewAt_run h]
theorem cellsIn_run {B : Nat} {c : Array Value} {e : TypeId} {fr : Nat × Nat} (h : w.heap[B]? = some (.cells c e fr)) : (cellsIn B).run P w = .ok (some c.size) w := by
  simp [cellsIn, shape_run h]
theorem variablesAt_run {a : Addr} {u : TypeId} {n : Nat} {c : Array Value} {e : TypeId} {fr : Nat × Nat} (h : w.heap[a.block]? = some (.cells c e fr)) :
    (variablesAt a u n).run P w = .ok (liesAt P P.depth e (c.size / P.cellsOf e) a.off u n) w := by
  simp [variablesAt, program, Sem.run, World.shape?, shape, h]

theorem conv_ok (r : Rel ρ base h w) {s d : TypeId} {x v : AV} {X : Value} (hx : VR ρ x X) (he : convA P s d h x = some v) : ∃ V, (convert s d X).run P w = .ok V w ∧ VR ρ v V := by
  unfold convA at he
  split at he
  · rename_i ds k k' n hs hd
    simp only [Option.some.injEq] at he
    subst he
    simp only [VR] at hx
    subst hx
    refine ⟨.int k (k.wrap n), ?_, by simp only [VR, wr_eq]⟩
    simp only [convert, Sem.run_bind, r_und hs, r_und hd, Result.andThen_ok]
    rfl
  · rename_i ds k k' m q b hs hd
    cases hb : Nat.ble b (topOf k) with
    | false => rw [hb] at he; cases he
    | true =>
      rw [hb] at he
      simp only [cond_true, Option.some.injEq] at he
      subst he
      simp only [VR] at hx
      obtain ⟨n, rfl, h1, h2⟩ := hx
      have hw : k.wrap (Int.ofNat n) = Int.ofNat n := by
        have hle := Nat.le_of_ble_eq_true hb
        rw [← wr_eq]
        unfold wr
        have : Nat.blt n (topOf k) = true := (blt_iff _ _).2 (by omega)
        simp only [this, cond_true]
      refine ⟨.int k (.ofNat n), ?_, by simp only [VR]; exact ⟨n, rfl, h1, h2⟩⟩
      simp only [convert, Sem.run_bind, r_und hs, r_und hd, Result.andThen_ok]
      show Result.ok (Value.int k (k.wrap (Int.ofNat n))) w = _
      rw [hw]
  · rename_i n a hs hd
    simp only [Option.some.injEq] at he
    subst he
    refine ⟨X, ?_, hx⟩
    obtain ⟨s, rfl, _, _⟩ := hx.str
    simp only [convert, Sem.run_bind, r_und hs, r_und hd, Result.andThen_ok]
    rfl
  · rename_i t b o hs hd
    obtain ⟨l, hb, rfl⟩ := hx.ptr
    split at he
    · rename_i vs e ro z sz hg hsz
      cases hq : Nat.beq sz 0 || Nat.ble vs.length o with
      | true => rw [hq] at he; simp at he
      | false =>
        rw [hq] at he
        simp only [cond_false, Option.some.injEq] at he
        subst he
        rw [Bool.or_eq_false_iff] at hq
        have hz0 : sz ≠ 0 := fun h0 => by have := hq.1; rw [h0] at this; cases this
        have ho : o < vs.length := by
          rcases Nat.lt_or_ge o vs.length with q | q
          · exact q
          · have := Nat.ble_eq_true_of_le q
            rw [hq.2] at this; cases this
        obtain ⟨c, fr, g1, g2, g3⟩ := (r.obj b _ l hg hb).len
        have g3 := g3 (by intro h0; subst h0; simp at ho)
        refine ⟨_, ?_, hx⟩
        have hc : ¬ (l.o + o ≥ c.size) := by omega
        simp [convert, Conv.unsafePointer, r_und hs, r_und hd, seenAt_run (P := P) (a := ⟨l.b, l.o + o, none⟩) g1, cellsIn_run (P := P) g1, r_size hsz, hz0]
        omega
    · cases he
  · rename_i u b o hs hd
    obtain ⟨l, hb, rfl⟩ := hx.ptr
    split at he
    · rename_i vs e ro z k hg hz
      cases hq : z && liesAt P P.depth e (vs.length / P.cellsOf e) o u 1 with
      | false => rw [hq] at he; simp at he
      | true =>
        rw [hq] at he
        simp only [cond_true, Option.some.injEq] at he
        subst he
        rw [Bool.and_eq_true] at hq
        obtain ⟨rfl, hq⟩ := hq
        obtain ⟨c, fr, g1, g2, _, g5, _⟩ := r.obj b _ l hg hb
        obtain ⟨c', fr', g1', g2', g3⟩ := (r.obj b _ l hg hb).len
        rw [g1] at g1'; injection g1' with g1'; injection g1' with g1'
        subst g1'
        have hlo := g5 rfl
        have hle : vs.length / P.cellsOf e ≤ c.size / P.cellsOf e := by
          apply Nat.div_le_div_right
          cases vs with
          | nil => simp
          | cons a l => have := g3 (by simp); omega
        have hl := liesAt_mono hle hq
        refine ⟨_, ?_, hx⟩
        have hv := variablesAt_run (P := P) (a := ⟨l.b, l.o + o, none⟩) (u := u) (n := 1) g1
        rw [hlo] at hv ⊢
        simp only [Nat.zero_add] at hv ⊢
        rw [hl] at hv
        simp only [convert, Conv.unsafePointer, Sem.run_bind, r_und hs, r_und hd, Result.andThen_ok, seenAt_run (P := P) (a := ⟨l.b, o, none⟩) g1]
        simp [r_size hz, hv]
    · cases he
  · cases he

theorem iface_ok {t : TypeId} {x v : AV} {X : Value} {h' : Hp} (hx : VR ρ x X) (he : aIface P t h x = .val v h') : h' = h ∧ ∃ V, (Instr.makeInterface t X).run P w = .ok V w ∧ VR ρ v V := by
  unfold aIface at he
  split at he
  · cases he
  · rename_i d hn hd
    injection he with e1 e2
    subst e1 e2
    refine ⟨rfl, .iface t X, ?_, by simp only [VR]; exact ⟨_, rfl, hx⟩⟩
    simp only [Instr.makeInterface, Sem.run_bind, r_und hd, Result.andThen_ok]
    cases d <;> first | rfl | exact absurd rfl (hn _)
  · cases he

theorem fields_ok {t : TypeId} {fs : List Field} (h : fieldsT P t = some fs) : ∃ a : Array Field, P.underlying t = some (.struct a) ∧ a.toList = fs := by
  unfold fieldsT at h
  split at h
  · rename_i a ha
    simp only [Option.some.injEq] at h
    exact ⟨a, ha, h⟩
  · cases h

theorem ofV_inv {o : Option AV} {h' : Hp} {v : AV} (he : OR.ofV h o = .val v h') : o = some v ∧ h' = h := by
  cases o with
  | none => cases he
  | some a => injection he with e1 e2; exact ⟨by rw [e1], e2.symm⟩

theorem field_ok {t : TypeId} {f : Nat} {x v : AV} {X : Value} {h' : Hp} (hx : VR ρ x X) (he : aField P t f h x = .val v h') : h' = h ∧ ∃ V, (Instr.field t X f).run P w = .ok V w ∧ VR ρ v V := by
  unfold aField at he
  split at he
  · rename_i l
    simp only [VR] at hx
    obtain ⟨C, rfl, a, b⟩ := hx
    split at he
    · rename_i fs hfs
      obtain ⟨ar, hd, rfl⟩ := fields_ok hfs
      unfold aField2 at he
      split at he
      · rename_i fd hfd
        obtain ⟨e1, rfl⟩ := ofV_inv he
        obtain ⟨V, r1, r2⟩ := part_ok (P := P) (w := w) a b e1
        refine ⟨rfl, V, ?_, r2⟩
        have hfd' : ar[f]? = some fd := by rw [← Array.getElem?_toList]; exact hfd
        simp [Instr.field, r_und hd, hfd', asAgg, r1]
      · cases he
    · cases he
  · cases he

theorem fieldAddr_ok {t : TypeId} {f : Nat} {x v : AV} {X : Value} {h' : Hp} (hx : VR ρ x X) (he : aFieldAddr P t f h x = .val v h') : h' = h ∧ ∃ V, (Instr.fieldAt t X f).run P w = .ok V w ∧ VR ρ v V := by
  unfold aFieldAddr at he
  split at he
  · rename_i b o
    obtain ⟨l, hb, rfl⟩ := hx.ptr
    split at he
    · rename_i fs hfs
      obtain ⟨ar, hd, rfl⟩ := fields_ok hfs
      unfold aFieldAddr2 at he
      split at he
      · rename_i fd hfd
        split at he
        · rename_i n hsz
          injection he with e1 e2
          subst e1 e2
          have hfd' : ar[f]? = some fd := by rw [← Array.getElem?_toList]; exact hfd
          refine ⟨rfl, .pointer (some ⟨l.b, l.o + (o + fd.offset), none⟩), ?_, by simp only [VR]; exact ⟨l, hb, rfl⟩⟩
          simp [Instr.fieldAt, Instr.sureAddr, r_und hd, hfd', fieldPlace, r_size hsz, addr_add, Nat.add_assoc]
        · cases he
      · cases he
    · cases he
  · cases he

theorem extract_ok {i : Nat} {x v : AV} {X : Value} {h' : Hp} (hx : VR ρ x X) (he : aExtract i h x = .val v h') : h' = h ∧ ∃ V, (Instr.extract X i).run P w = .ok V w ∧ VR ρ v V := by
  unfold aExtract at he
  split at he
  · rename_i l
    simp only [VR] at hx
    obtain ⟨C, rfl, a⟩ := hx
    obtain ⟨e1, rfl⟩ := ofV_inv he
    obtain ⟨V, g1, g2⟩ := a.get i v e1
    rw [Array.getElem?_toList] at g1
    exact ⟨rfl, V, by simp [Instr.extract, g1], g2⟩
  · cases he

theorem assert_ok {t xt : TypeId} {x v : AV} {X : Value} {h' : Hp} (hx : VR ρ x X) (he : aAssert P t h x = .val v h') : h' = h ∧ ∃ V, (Instr.typeAssert X xt t true).run P w = .ok V w ∧ VR ρ v V := by
  unfold aAssert at he
  split at he
  · cases he
  · cases he
  · rename_i d hn hd
    split at he
    · split at he
      · rename_i z hz
        injection he with e1 e2
        subst e1 e2
        simp only [VR] at hx
        subst hx
        obtain ⟨Z, z1, z2⟩ := r_zero (P := P) (w := w) (ρ := ρ) hz
        refine ⟨rfl, .tuple #[Z, .bool false], ?_, by simp only [VR]; exact ⟨_, rfl, .cons z2 (.cons (by simp only [VR]) .nil)⟩⟩
        simp only [Instr.typeAssert, Sem.run_bind, r_und hd, Result.andThen_ok]
        cases d <;> first | exact absurd rfl (hn _) | simp [z1]
      · cases he
    · rename_i u a
      cases hq : Nat.beq u t with
      | false => rw [hq] at he; cases he
      | true =>
        rw [hq] at he
        simp only [cond_true] at he
        injection he with e1 e2
        subst e1 e2
        have := Nat.eq_of_beq_eq_true hq
        subst this
        simp only [VR] at hx
        obtain ⟨W, rfl, hw⟩ := hx
        refine ⟨rfl, .tuple #[W, .bool true], ?_, by simp only [VR]; exact ⟨_, rfl, .cons hw (.cons (by simp only [VR]) .nil)⟩⟩
        simp only [Instr.typeAssert, Sem.run_bind, r_und hd, Result.andThen_ok]
        cases d <;> first | exact absurd rfl (hn _) | simp
    · cases he

theorem func_ok {f : Fn} {a c : Option (List AV)} {A C : Array Value} {v : AV} {h' : Hp} (ha : ∀ l, a = some l → VRL ρ l A.toList) (hc : ∀ l, c = some l → VRL ρ l C.toList)
    (he : aFunc h f a c = .val v h') : h' = h ∧ ∃ V, (Instr.makeFunc f A C).run P w = .ok V w ∧ VR ρ v V := by
  unfold aFunc at he
  split at he
  · rename_i l l'
    split at he
    · rename_i g
      injection he with e1 e2
      subst e1 e2
      refine ⟨rfl, _, rfl, ?_⟩
      simp only [VR]
      exact ⟨_, _, _, rfl, rfl, ha _ rfl, hc _ rfl⟩
    · cases he
  · cases he

end ops
end Go.Ev
