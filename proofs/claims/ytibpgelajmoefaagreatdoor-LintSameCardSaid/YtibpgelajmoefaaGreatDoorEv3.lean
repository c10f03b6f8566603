/- The heap relation, and how a step turns it. -/
import Derived.Test.YtibpgelajmoefaaGreatDoorEv2
namespace Go.Ev

theorem Hp.get_set_eq {h : Hp} {b : Nat} {o o' : AO} (g : (h.set b o).get b = some o') : o' = o := getF_setF_eq 22 h.t b o o' g
theorem Hp.get_set_ne {h : Hp} {b j : Nat} {o : AO} (n : j ≠ b) : (h.set b o).get j = h.get j := getF_setF_ne 22 h.t j b o n
theorem Hp.get_new_eq {h : Hp} {o o' : AO} (g : (h.new o).get h.next = some o') : o' = o := getF_setF_eq 22 h.t h.next o o' g
theorem Hp.get_new_ne {h : Hp} {j : Nat} {o : AO} (n : j ≠ h.next) : (h.new o).get j = h.get j := getF_setF_ne 22 h.t j h.next o n
@[simp] theorem Hp.next_set (h : Hp) (b : Nat) (o : AO) : (h.set b o).next = h.next := rfl
@[simp] theorem Hp.next_new (h : Hp) (o : AO) : (h.new o).next = h.next + 1 := rfl
@[simp] theorem Hp.g_set (h : Hp) (b : Nat) (o : AO) : (h.set b o).g = h.g := rfl
@[simp] theorem Hp.g_new (h : Hp) (o : AO) : (h.new o).g = h.g := rfl

def quietOp : Op → Bool
  | .defer _ => false
  | .call { callee := .builtin .recover, .. } => false
  | _ => true
def dstOk (n : Nat) : Option Tmp → Bool
  | some d => Nat.blt d n
  | none => true
/-- Code of whom each slot that is written lies below n; in a round, nothing is deferred. -/
def codeOk (r : Bool) (n : Nat) : Code → Bool
  | .region _ ops _ => ops.toList.all (fun o => dstOk n o.dst && (!r || quietOp o.op))
  | .seq a b => codeOk r n a && codeOk r n b
  | .cond _ a b => codeOk r n a && codeOk r n b
  | .block _ a => codeOk r n a
  | .loop a => codeOk r n a
  | .scope a => codeOk r n a
  | .rangeFunc _ ps asg body => ps.toList.all (fun d => Nat.blt d n) && codeOk true n asg && codeOk true n body
  | _ => true

def rw : AO → Bool
  | .cells _ _ ro _ => !ro
  | .dead => false
  | _ => true

def PendR : Ex → Option Code → Prop
  | .normal, c => c = none
  | .exit id, c => c = some (.exit id)
  | .ret, c => c = some .ret

def StR : Nat → LoopState → Prop
  | 0, s => s = .ready
  | 1, s => s = .busy
  | 2, s => s = .done
  | 3, s => s = .exhausted
  | _, _ => False

def ObjR (ρ : Rho) (w : World) (l : Loc) : AO → Prop
  | .cells vs e ro z => ∃ c fr, w.heap[l.b]? = some (.cells c e fr) ∧ c.size = l.c ∧ (ro = false → fr = (0, 0)) ∧ (z = true → l.o = 0) ∧
      ∀ (i : Nat) (v : AV), vs[i]? = some v → ∃ V, c[l.o + i]? = some V ∧ VR ρ v V ∧ scalar V
  | .dead => True
  | .map es clock => l.o = 0 ∧ ∃ ces : Array MapEntry, w.heap[l.b]? = some (.map ces clock) ∧ ces.size = es.length ∧
      ∀ (i : Nat) (x : AV × AV × Nat), es[i]? = some x → ∃ E, ces[i]? = some E ∧ VR ρ x.1 E.key ∧ VR ρ x.2.1 E.val ∧ E.born = x.2.2
  | .iter n v pos => l.o = 0 ∧ ∃ s : ByteArray, w.heap[l.b]? = some (.stringIter s pos) ∧ s.data.toList.length = n ∧ bn s.data.toList = v
  | .loop st pend env ps asg body => l.o = 0 ∧ ∃ L : Loop, w.heap[l.b]? = some (.loop L) ∧ StR st L.state ∧ PendR pend L.pending ∧ EnvR ρ env L.tmps ∧
      L.params.toList = ps ∧ L.assign = asg ∧ L.body = body ∧ ∃ n, codeOk true n asg = true ∧ codeOk true n body = true ∧ n ≤ L.tmps.size ∧ ∀ d ∈ ps, d < n
  | .deferred => l.o = 0 ∧ w.heap[l.b]? = some (.deferred (some []))

theorem ObjR.mono {ρ ρ' : Rho} {w w' : World} {l : Loc} {o : AO} (hs : Sub ρ ρ') (hw : w'.heap[l.b]? = w.heap[l.b]?) (r : ObjR ρ w l o) : ObjR ρ' w' l o := by
  cases o with
  | cells vs e ro z =>
    obtain ⟨c, fr, h1, h2, h3, h5, h4⟩ := r
    exact ⟨c, fr, hw.trans h1, h2, h3, h5, fun i v hv => let ⟨V, a, b, c⟩ := h4 i v hv; ⟨V, a, b.mono hs, c⟩⟩
  | dead => trivial
  | map es clock =>
    obtain ⟨h0, c, h1, h2, h4⟩ := r
    exact ⟨h0, c, hw.trans h1, h2, fun i v hv => let ⟨V, a, b, c, d⟩ := h4 i v hv; ⟨V, a, b.mono hs, c.mono hs, d⟩⟩
  | iter n v pos =>
    obtain ⟨h0, s, h1, h2⟩ := r
    exact ⟨h0, s, hw.trans h1, h2⟩
  | loop st pend env ps asg body =>
    obtain ⟨h0, L, h1, h2, h3, h4, h5⟩ := r
    exact ⟨h0, L, hw.trans h1, h2, h3, h4.mono hs, h5⟩
  | deferred =>
    obtain ⟨h0, h1⟩ := r
    exact ⟨h0, hw.trans h1⟩

/-- What the memory below a bound holds from the start on, and for ever. -/
structure Laid where
  ok : Nat → World → Prop
  keep : ∀ n w w', ok n w → (∀ B, B < n → w'.heap[B]? = w.heap[B]?) → ok n w'

/-- The bound. -/
structure Bs (Λ : Laid) where
  n : Nat

variable {Λ : Laid}

structure Rel (ρ : Rho) (base : Bs Λ) (h : Hp) (w : World) : Prop where
  obj : ∀ b o l, h.get b = some o → ρ b = some l → ObjR ρ w l o
  low : ∀ b o l, h.get b = some o → rw o = true → ρ b = some l → base.n ≤ l.b
  ro : ∀ b vs e z l, h.get b = some (.cells vs e true z) → ρ b = some l → l.b < base.n
  inj : ∀ b b' o o' l l', h.get b = some o → h.get b' = some o' → rw o = true → rw o' = true → ρ b = some l → ρ b' = some l' → l.b = l'.b → b = b'
  lt : ∀ b l, ρ b = some l → l.b < w.heap.size
  dom : ∀ b o, h.get b = some o → b < h.next
  bs : base.n ≤ w.heap.size
  glob : ∀ g, g < h.g → ∃ c, ρ g = some ⟨g, 0, c⟩
  laid : Λ.ok base.n w

/-- What a step does to the map, the blocks and the memory. -/
structure Step (ρ : Rho) (h : Hp) (w : World) (ρ' : Rho) (h' : Hp) (w' : World) : Prop where
  sub : Sub ρ ρ'
  keep : ∀ b, (b < h.next ∨ h'.next ≤ b) → ρ' b = ρ b
  next : h.next ≤ h'.next
  g : h'.g = h.g
  os : w'.os = w.os
  tape : w'.tape = w.tape
  output : w'.output = w.output
  size : w.heap.size ≤ w'.heap.size
  loops : ∀ (B : Nat) (L : Loop), w.heap[B]? = some (.loop L) → ∃ L', w'.heap[B]? = some (.loop L')
  frame : ∀ B, B < w.heap.size → (∀ b o l, h.get b = some o → rw o = true → ρ b = some l → l.b ≠ B) → w'.heap[B]? = w.heap[B]?
  img : ∀ b o l, h'.get b = some o → rw o = true → ρ' b = some l → w.heap.size ≤ l.b ∨ ∃ b₀ o₀ l₀, h.get b₀ = some o₀ ∧ rw o₀ = true ∧ ρ b₀ = some l₀ ∧ l₀.b = l.b

theorem Step.refl (ρ : Rho) (h : Hp) (w : World) : Step ρ h w ρ h w :=
  ⟨.refl _, fun _ _ => rfl, Nat.le_refl _, rfl, rfl, rfl, rfl, Nat.le_refl _, fun _ L h => ⟨L, h⟩, fun _ _ _ => rfl, fun b o l g r e => .inr ⟨b, o, l, g, r, e, rfl⟩⟩

theorem Step.trans {ρ ρ₁ ρ₂ : Rho} {h h₁ h₂ : Hp} {w w₁ w₂ : World} (s : Step ρ h w ρ₁ h₁ w₁) (t : Step ρ₁ h₁ w₁ ρ₂ h₂ w₂) : Step ρ h w ρ₂ h₂ w₂ := by
  refine ⟨s.sub.trans t.sub, fun b hb => (t.keep b (hb.imp (fun q => Nat.lt_of_lt_of_le q s.next) id)).trans (s.keep b (hb.imp id (Nat.le_trans t.next))), Nat.le_trans s.next t.next, t.g.trans s.g, t.os.trans s.os, t.tape.trans s.tape, t.output.trans s.output, Nat.le_trans s.size t.size, fun B L h => let ⟨L', h'⟩ := s.loops B L h; t.loops B L' h', fun B hB hn => ?_, fun b o l g r e => ?_⟩
  · refine (t.frame B (Nat.lt_of_lt_of_le hB s.size) fun b o l g r e => ?_).trans (s.frame B hB hn)
    rcases s.img b o l g r e with h | ⟨b₀, o₀, l₀, g₀, r₀, e₀, h⟩
    · omega
    · rw [← h]; exact hn b₀ o₀ l₀ g₀ r₀ e₀
  · rcases t.img b o l g r e with h | ⟨b₀, o₀, l₀, g₀, r₀, e₀, h⟩
    · exact .inl (Nat.le_trans s.size h)
    · rcases s.img b₀ o₀ l₀ g₀ r₀ e₀ with h' | ⟨b₁, o₁, l₁, g₁, r₁, e₁, h'⟩
      · exact .inl (by omega)
      · exact .inr ⟨b₁, o₁, l₁, g₁, r₁, e₁, by omega⟩

/-- A draw from the tape. -/
theorem Step.drew {ρ : Rho} {h : Hp} {w : World} (n : Nat) : Step ρ h w ρ h { w with drawn := n } :=
  ⟨.refl _, fun _ _ => rfl, Nat.le_refl _, rfl, rfl, rfl, rfl, Nat.le_refl _, fun _ L h => ⟨L, h⟩, fun _ _ _ => rfl, fun b o l g r e => .inr ⟨b, o, l, g, r, e, rfl⟩⟩
theorem Rel.drew {ρ : Rho} {base : Bs Λ} {h : Hp} {w : World} (r : Rel ρ base h w) (n : Nat) : Rel ρ base h { w with drawn := n } :=
  ⟨fun b o l g e => (r.obj b o l g e).mono (.refl _) rfl, r.low, r.ro, r.inj, r.lt, r.dom, r.bs, r.glob, Λ.keep _ _ _ r.laid fun _ _ => rfl⟩

def isLp : AO → Bool
  | .loop .. => true
  | _ => false
theorem isLp_of {ρ : Rho} {w : World} {l : Loc} {o : AO} {L : Loop} (r : ObjR ρ w l o) (hr : rw o = true) (h : w.heap[l.b]? = some (.loop L)) : isLp o = true := by
  cases o with
  | cells vs e ro z => obtain ⟨c, fr, h1, _⟩ := r; rw [h] at h1; cases h1
  | dead => cases hr
  | map es clock => obtain ⟨_, c, h1, _⟩ := r; rw [h] at h1; cases h1
  | iter n v pos => obtain ⟨_, c, h1, _⟩ := r; rw [h] at h1; cases h1
  | loop st pend env ps asg body => rfl
  | deferred => obtain ⟨_, h1⟩ := r; rw [h] at h1; cases h1

/-- One block's memory is turned, of those that may be written. -/
theorem Rel.turn {ρ : Rho} {base : Bs Λ} {h : Hp} {w : World} (r : Rel ρ base h w) {b : Nat} {o o' : AO} {l : Loc} {O : Obj} (hg : h.get b = some o) (hr : rw o = true) (hb : ρ b = some l)
    (hro : ∀ vs e z, o' ≠ .cells vs e true z)
    (ho : ObjR ρ { w with heap := w.heap.setIfInBounds l.b O } l o') (hL : isLp o = true → ∃ L', O = .loop L' := by simp [isLp]) :
    Rel ρ base (h.set b o') { w with heap := w.heap.setIfInBounds l.b O } ∧ Step ρ h w ρ (h.set b o') { w with heap := w.heap.setIfInBounds l.b O } := by
  have hlow := r.low b o l hg hr hb
  have hne : ∀ {B : Nat}, B ≠ l.b → ({ w with heap := w.heap.setIfInBounds l.b O } : World).heap[B]? = w.heap[B]? := fun {B} h => by
    show (w.heap.setIfInBounds l.b O)[B]? = _
    exact Array.getElem?_setIfInBounds_ne (Ne.symm h)
  have old : ∀ j x, (h.set b o').get j = some x → rw x = true → ∃ y, h.get j = some y ∧ rw y = true := by
    intro j x g rx
    by_cases e : j = b
    · subst e; exact ⟨o, hg, hr⟩
    · rw [Hp.get_set_ne e] at g; exact ⟨x, g, rx⟩
  refine ⟨⟨?_, ?_, ?_, ?_, ?_, ?_, ?_, r.glob, Λ.keep _ _ _ r.laid fun B hB => hne (by omega)⟩, ⟨.refl _, fun _ _ => rfl, Nat.le_refl _, rfl, rfl, rfl, rfl, ?_, ?_, ?_, ?_⟩⟩
  · intro j x k g e
    by_cases hj : j = b
    · subst hj
      rw [hb] at e; cases e
      rw [Hp.get_set_eq g]; exact ho
    · rw [Hp.get_set_ne hj] at g
      cases hx : rw x with
      | true =>
        refine (r.obj j x k g e).mono (.refl _) (hne fun h => hj (r.inj j b x o k l g hg hx hr e hb h))
      | false =>
        cases x with
        | cells vs t ro z =>
          have hro : ro = true := by simpa [rw] using hx
          subst hro
          have := r.ro j vs t z k g e
          exact (r.obj j _ k g e).mono (.refl _) (hne (by omega))
        | dead => trivial
        | map => simp [rw] at hx
        | iter => simp [rw] at hx
        | loop => simp [rw] at hx
        | deferred => simp [rw] at hx
  · intro j x k g rx e
    obtain ⟨y, gy, ry⟩ := old j x g rx
    exact r.low j y k gy ry e
  · intro j vs e z k g hk
    by_cases hj : j = b
    · subst hj
      exact absurd (Hp.get_set_eq g).symm (hro vs e z)
    · rw [Hp.get_set_ne hj] at g
      exact r.ro j vs e z k g hk
  · intro j j' x x' k k' g g' rx rx' e e' hk
    obtain ⟨y, gy, ry⟩ := old j x g rx
    obtain ⟨y', gy', ry'⟩ := old j' x' g' rx'
    exact r.inj j j' y y' k k' gy gy' ry ry' e e' hk
  · intro j k e
    show k.b < (w.heap.setIfInBounds l.b O).size
    rw [Array.size_setIfInBounds]; exact r.lt j k e
  · intro j x g
    by_cases hj : j = b
    · subst hj; exact r.dom j o hg
    · rw [Hp.get_set_ne hj] at g; exact r.dom j x g
  · show base.n ≤ (w.heap.setIfInBounds l.b O).size
    rw [Array.size_setIfInBounds]; exact r.bs
  · show w.heap.size ≤ (w.heap.setIfInBounds l.b O).size
    rw [Array.size_setIfInBounds]; exact Nat.le_refl _
  · intro B L hBL
    by_cases hB : B = l.b
    · subst hB
      obtain ⟨L', rfl⟩ := hL (isLp_of (r.obj b o l hg hb) hr hBL)
      refine ⟨L', ?_⟩
      show (w.heap.setIfInBounds l.b _)[l.b]? = _
      rw [Array.getElem?_setIfInBounds_self_of_lt (r.lt b l hb)]
    · exact ⟨L, (hne hB).trans hBL⟩
  · intro B hB hn
    exact hne (Ne.symm (hn b o l hg hr hb))
  · intro j x k g rx e
    obtain ⟨y, gy, ry⟩ := old j x g rx
    exact .inr ⟨j, y, k, gy, ry, e, rfl⟩

def upd (ρ : Rho) (b : Nat) (l : Loc) : Rho := fun j => if j = b then some l else ρ j
theorem upd_eq (ρ : Rho) (b : Nat) (l : Loc) : upd ρ b l b = some l := by simp [upd]
theorem upd_ne {ρ : Rho} {b j : Nat} {l : Loc} (h : j ≠ b) : upd ρ b l j = ρ j := by simp [upd, h]
theorem Sub.upd {ρ : Rho} {b : Nat} {l : Loc} (h : ρ b = none) : Sub ρ (upd ρ b l) := fun j k e => by
  rw [upd_ne]; exact e
  intro hj; subst hj; rw [h] at e; cases e

/-- A new block. -/
theorem Rel.fresh {ρ : Rho} {base : Bs Λ} {h : Hp} {w : World} (r : Rel ρ base h w) {o : AO} {O : Obj} {l : Loc} (hf : ρ h.next = none) (hl : l.b = w.heap.size)
    (hro : ∀ vs e z, o ≠ .cells vs e true z)
    (ho : ObjR (upd ρ h.next l) { w with heap := w.heap.push O } l o) :
    Rel (upd ρ h.next l) base (h.new o) { w with heap := w.heap.push O } ∧ Step ρ h w (upd ρ h.next l) (h.new o) { w with heap := w.heap.push O } := by
  have hs : Sub ρ (upd ρ h.next l) := .upd hf
  have hne : ∀ {B : Nat}, B < w.heap.size → ({ w with heap := w.heap.push O } : World).heap[B]? = w.heap[B]? := fun {B} h => by
    show (w.heap.push O)[B]? = _
    rw [Array.getElem?_push_lt h, Array.getElem?_eq_getElem h]
  have hk : ∀ {j k x}, (h.new o).get j = some x → upd ρ h.next l j = some k → j ≠ h.next → h.get j = some x ∧ ρ j = some k := fun {j k x} g e n => by
    rw [Hp.get_new_ne n] at g; rw [upd_ne n] at e; exact ⟨g, e⟩
  refine ⟨⟨?_, ?_, ?_, ?_, ?_, ?_, ?_, fun g hg => (r.glob g hg).imp fun c e => hs _ _ e, Λ.keep _ _ _ r.laid fun B hB => hne (by have := r.bs; omega)⟩, ⟨hs, ?_, Nat.le_succ _, rfl, rfl, rfl, rfl, ?_, ?_, ?_, ?_⟩⟩
  · intro j x k g e
    by_cases n : j = h.next
    · subst n
      rw [upd_eq] at e; cases e
      rw [Hp.get_new_eq g]; exact ho
    · obtain ⟨g, e⟩ := hk g e n
      exact (r.obj j x k g e).mono hs (hne (r.lt j k e))
  · intro j x k g rx e
    by_cases n : j = h.next
    · subst n
      rw [upd_eq] at e; cases e
      rw [hl]; exact r.bs
    · obtain ⟨g, e⟩ := hk g e n
      exact r.low j x k g rx e
  · intro j vs t z k g e
    by_cases n : j = h.next
    · subst n
      exact absurd (Hp.get_new_eq g).symm (hro vs t z)
    · obtain ⟨g, e⟩ := hk g e n
      exact r.ro j vs t z k g e
  · intro j j' x x' k k' g g' rx rx' e e' hkk
    by_cases n : j = h.next <;> by_cases n' : j' = h.next
    · rw [n, n']
    · subst n
      rw [upd_eq] at e; cases e
      obtain ⟨g', e'⟩ := hk g' e' n'
      have := r.lt j' k' e'
      omega
    · subst n'
      rw [upd_eq] at e'; cases e'
      obtain ⟨g, e⟩ := hk g e n
      have := r.lt j k e
      omega
    · obtain ⟨g, e⟩ := hk g e n
      obtain ⟨g', e'⟩ := hk g' e' n'
      exact r.inj j j' x x' k k' g g' rx rx' e e' hkk
  · intro j k e
    show k.b < (w.heap.push O).size
    rw [Array.size_push]
    by_cases n : j = h.next
    · subst n; rw [upd_eq] at e; cases e; omega
    · rw [upd_ne n] at e; have := r.lt j k e; omega
  · intro j x g
    by_cases n : j = h.next
    · subst n; exact Nat.lt_succ_self _
    · rw [Hp.get_new_ne n] at g; exact Nat.lt_succ_of_lt (r.dom j x g)
  · show base.n ≤ (w.heap.push O).size
    rw [Array.size_push]; exact Nat.le_succ_of_le r.bs
  · intro j hj
    exact upd_ne (by rw [Hp.next_new] at hj; omega)
  · show w.heap.size ≤ (w.heap.push O).size
    rw [Array.size_push]; exact Nat.le_succ _
  · intro B L hBL
    exact ⟨L, (hne (Array.getElem?_eq_some_iff.1 hBL).1).trans hBL⟩
  · intro B hB _
    exact hne hB
  · intro j x k g rx e
    by_cases n : j = h.next
    · subst n; rw [upd_eq] at e; cases e; exact .inl (by omega)
    · obtain ⟨g, e⟩ := hk g e n
      exact .inr ⟨j, x, k, g, rx, e, rfl⟩

end Go.Ev
