/- The builtin append. -/
import Derived.Test.YtibpgelajmoefaaGreatDoorEv11
namespace Go.Ev
variable {Λ : Laid}

section ops
variable {P : Program} {ρ : Rho} {base : Bs Λ} {h : Hp} {w : World}

/-- What append does once its operands are known. -/
def appTail (elem size k sLen sCap bytes : Nat) (base : Option Addr) (S : Value) (src : Sem (Array Value)) : Sem Value :=
  if sLen + k ≤ sCap then do
    let new ← src
    if let some a := base then storeCells (a.add (sLen * size)) new.toList
    pure (.slice base (sLen + k) sCap)
  else do
    let newCap ← choose (.appendCap (sLen + k) sCap elem)
    askRoom (newCap * bytes)
    let old ← Builtin.firstCells size sLen S
    let new ← src
    let rest := Builtin.zeroCells (← zeroValue elem).cells (newCap - (sLen + k))
    pure (.slice (some (← newRow elem (old ++ new ++ rest))) (sLen + k) newCap)

def srcOf (elem size k : Nat) (X : Value) (zeros : Bool) : Sem (Array Value) :=
  if !zeros then Builtin.firstCells size k X
  else if k * size = 0 then pure #[]
  else do pure (Builtin.zeroCells (← zeroValue elem).cells k)

theorem append_run {st xt ty elem size k sLen sCap bytes : Nat} {base : Option Addr} {X : Value} {xd : TypeDesc} (hd : P.underlying st = some (.slice elem)) (hxd : P.underlying xt = some xd) (hs : szT P elem = some size) (hb : byT P elem = some bytes)
    (hX : if isIntD xd = true then X = .int .i64 (Int.ofNat k) ∧ k ≤ 1000000 else (Builtin.lenOf X).run P w = .ok k w)
    (hk : k * bytes ≤ 281474976710656) (hbd : ¬ sLen + k ≤ sCap → (2 * (sLen + k) + 192) * bytes ≤ 281474976710656 ∧ 0 < bytes) :
    (Builtin.append_ #[st, xt] ty #[.slice base sLen sCap, X]).run P w = (appTail elem size k sLen sCap bytes base (.slice base sLen sCap) (srcOf elem size k X (isIntD xd))).run P w := by
  obtain ⟨i, hi, hib⟩ := r_info (P := P) (w := w) hb
  have hmax : IntKind.i64.max = 9223372036854775807 := rfl
  have hq : ∀ w : World, (choose (.appendCap (sLen + k) sCap elem)).run P w = .ok (Question.cut (.appendCap (sLen + k) sCap elem) (w.tape w.drawn (.appendCap (sLen + k) sCap elem))) { w with drawn := w.drawn + 1 } := fun w => by simp [Question.forced]
  have hi' : ∀ w : World, (typeInfo elem).run P w = .ok i w := by
    intro w'
    unfold byT at hb
    split at hb
    · rename_i j hj
      have e1 : (typeInfo elem).run P w = .ok j w := by simp [typeInfo, hj]
      rw [hi] at e1
      injection e1 with e1
      subst e1
      simp [typeInfo, hj]
    · cases hb
  unfold Builtin.append_
  simp only [List.getElem?_toArray, List.getElem?_cons_zero, List.getElem?_cons_succ, Sem.run_bind, r_und hd, Result.andThen_ok, r_size hs, r_und hxd, Sem.run_pure]
  cases xd with
  | int kk =>
    simp only [isIntD, if_true] at hX
    obtain ⟨rfl, hk6⟩ := hX
    have hw : IntKind.i64.wrap (Int.ofNat k) = Int.ofNat k := by
      rw [← wr_eq]
      unfold wr
      have : Nat.blt k (topOf .i64) = true := (blt_iff _ _).2 (by simp only [topOf]; omega)
      simp only [this, cond_true]
    have h3 : ¬ (Int.ofNat k * (i.bytes : Int) > 2 ^ 48) := by
      rw [hib]
      have e : (Int.ofNat k * (bytes : Int)) = ((k * bytes : Nat) : Int) := by simp
      rw [e]; omega
    have h4 : ¬ (Int.ofNat k < 0) := by simp
    rw [if_pos rfl]
    simp only [asInt, asIntOf, pure_bind, hw]
    rw [if_neg h4, Sem.run_bind, hi', Result.andThen_ok, if_neg h3]
    simp only [pure_bind, Int.ofNat_eq_natCast, Int.toNat_natCast]
    unfold appTail srcOf
    by_cases hc : sLen + k ≤ sCap
    · rw [if_pos hc, if_pos hc]
      rfl
    · rw [if_neg hc, if_neg hc]
      obtain ⟨hbd, hb0⟩ := hbd hc
      have hneed : sLen + k ≤ 281474976710656 := Nat.le_trans (by have := Nat.mul_le_mul_left (2 * (sLen + k) + 192) hb0; omega) hbd
      have hnc := nextcap_le (n := sLen + k) (c := sCap) (by omega)
      have h1 : ¬ (((sLen + k : Nat) : Int) > IntKind.i64.max ∧ (True ∨ i.bytes = 0)) := by rw [hmax]; omega
      have h2 : ¬ (Builtin.nextslicecap (sLen + k) sCap * i.bytes > 2 ^ 48) := by
        rw [hib]
        have := Nat.mul_le_mul_right bytes hnc
        omega
      rw [Sem.run_bind, hi', Result.andThen_ok, if_neg h1, Sem.run_bind, hi', Result.andThen_ok, if_neg h2, Sem.run_bind, Sem.run_bind, hq, Result.andThen_ok, Result.andThen_ok, Sem.run_bind, hi', Result.andThen_ok, Sem.run_bind, Sem.run_bind, run_askRoom, run_askRoom, Result.andThen_ok, Result.andThen_ok]
      rfl
  | _ =>
    simp only [isIntD, Bool.false_eq_true, if_false] at hX
    rw [if_neg (by simp), Sem.run_bind, hX, Result.andThen_ok]
    unfold appTail srcOf
    by_cases hc : sLen + k ≤ sCap
    · rw [if_pos hc, if_pos hc]
      rfl
    · rw [if_neg hc, if_neg hc]
      obtain ⟨hbd, hb0⟩ := hbd hc
      have hneed : sLen + k ≤ 281474976710656 := Nat.le_trans (by have := Nat.mul_le_mul_left (2 * (sLen + k) + 192) hb0; omega) hbd
      have hnc := nextcap_le (n := sLen + k) (c := sCap) (by omega)
      have h1 : ¬ (((sLen + k : Nat) : Int) > IntKind.i64.max ∧ ((false = true) ∨ i.bytes = 0)) := by rw [hmax]; omega
      have h2 : ¬ (Builtin.nextslicecap (sLen + k) sCap * i.bytes > 2 ^ 48) := by
        rw [hib]
        have := Nat.mul_le_mul_right bytes hnc
        omega
      rw [Sem.run_bind, hi', Result.andThen_ok, if_neg h1, Sem.run_bind, hi', Result.andThen_ok, if_neg h2, Sem.run_bind, Sem.run_bind, hq, Result.andThen_ok, Result.andThen_ok, Sem.run_bind, hi', Result.andThen_ok, Sem.run_bind, Sem.run_bind, run_askRoom, run_askRoom, Result.andThen_ok, Result.andThen_ok]
      rfl

theorem zeroCells_length {Z : Array Value} {n : Nat} : (Builtin.zeroCells Z n).size = n * Z.size := by simp [Builtin.zeroCells]

theorem zero_run {elem size : Nat} {z : List AV} (hs : szT P elem = some size) (hz : (zT P elem).bind AV.cells = some z) (hl : z.length = size) : ∃ Z : Value, (∀ w : World, (zeroValue elem).run P w = .ok Z w) ∧ Z.cells.size = size := by
  obtain ⟨zz, hz0, hc⟩ := Option.bind_eq_some_iff.1 hz
  have hv : ∃ Z : Value, (∀ w : World, (zeroValue elem).run P w = .ok Z w) := by
    unfold zT at hz0
    split at hz0
    · rename_i i hi
      split at hz0
      · rename_i Z hZ
        exact ⟨Z, fun w => by simp [zeroValue, typeInfo, hi, hZ]⟩
      · cases hz0
    · cases hz0
  obtain ⟨Z, hZ⟩ := hv
  obtain ⟨Z', h1, h2⟩ := r_zero (P := P) (w := default) (ρ := fun _ => none) hz0
  rw [hZ] at h1
  injection h1 with h1
  subst h1
  have := (cells_ok h2 hc).1.length
  exact ⟨Z, hZ, by rw [← Array.length_toList, this, hl]⟩

/-- Cells that are made anew. -/
theorem grow_ok (r : Rel ρ base h w) (hf : ρ h.next = none) {elem size k sLen sCap bytes : Nat} {base' : Option Addr} {S : Value} {src : Sem (Array Value)} {Lo Ln : List Value} {old new : List AV} (hc : ¬ sLen + k ≤ sCap)
    (ho : VRL ρ old Lo) (hn : VRL ρ new Ln) (so : ∀ Y ∈ Lo, scalar Y) (sn : ∀ Y ∈ Ln, scalar Y) (lo : Lo.length = sLen * size) (ln : Ln.length = k * size)
    (ro : ∀ w' : World, w'.heap = w.heap → (Builtin.firstCells size sLen S).run P w' = .ok Lo.toArray w') (rn : ∀ w' : World, w'.heap = w.heap → src.run P w' = .ok Ln.toArray w')
    {Z : Value} (hZ : ∀ w : World, (zeroValue elem).run P w = .ok Z w) (hZs : Z.cells.size = size) (hcap : sLen + k ≤ 2 ^ 63) :
    ∃ ρ' V w', (appTail elem size k sLen sCap bytes base' S src).run P w = .ok V w' ∧ Rel ρ' base (h.new (.cells (old ++ new) elem false true)) w' ∧
      Step ρ h w ρ' (h.new (.cells (old ++ new) elem false true)) w' ∧ VR ρ' (.sl h.next 0 (sLen + k) size false) V := by
  let q := Question.appendCap (sLen + k) sCap elem
  let cap := q.cut (w.tape w.drawn q)
  have hq : ∀ w : World, (choose q).run P w = .ok (q.cut (w.tape w.drawn q)) { w with drawn := w.drawn + 1 } := fun w => by simp [q, Question.forced]
  have hcapge : sLen + k ≤ cap := by simp only [cap, q, Question.cut]; omega
  let rest := Builtin.zeroCells Z.cells (cap - (sLen + k))
  have hf' := fresh_cells (r.drew (w.drawn + 1)) hf rest.toList (ho.append hn) (fun Y hY => by rcases List.mem_append.1 hY with a | a; exact so Y a; exact sn Y a) elem
  refine ⟨_, .slice (some ⟨w.heap.size, 0, none⟩) (sLen + k) cap, _, ?_, hf'.1, (Step.drew _).trans hf'.2, ?_⟩
  · have ro1 : (Builtin.firstCells size sLen S).run P { w with drawn := w.drawn + 1 } = .ok Lo.toArray { w with drawn := w.drawn + 1 } := ro _ rfl
    have rn1 : src.run P { w with drawn := w.drawn + 1 } = .ok Ln.toArray { w with drawn := w.drawn + 1 } := rn _ rfl
    unfold appTail
    rw [if_neg hc, Sem.run_bind, hq, Result.andThen_ok, Sem.run_bind, run_askRoom, Result.andThen_ok, Sem.run_bind, ro1, Result.andThen_ok, Sem.run_bind, rn1, Result.andThen_ok, Sem.run_bind, hZ, Result.andThen_ok]
    have : Lo.toArray ++ Ln.toArray ++ rest = (Lo ++ Ln ++ rest.toList).toArray := by simp
    simp only [newRow, Sem.run_bind, run_newObj, Sem.run_pure, Result.andThen_ok]
    rw [show (Builtin.zeroCells Z.cells (Question.cut q (w.tape w.drawn q) - (sLen + k))) = rest from rfl, this]
  · simp only [VR]
    refine ⟨_, cap, 0, upd_eq _ _ _, rfl, hcapge, ?_, by simp, fun _ => rfl⟩
    have hr : rest.toList.length = (cap - (sLen + k)) * size := by rw [Array.length_toList, zeroCells_length, hZs]
    simp only [List.length_append, lo, ln, hr]
    rw [← Nat.add_mul, ← Nat.add_mul, Nat.zero_add]
    exact Nat.le_of_eq (by congr 1; omega)

/-- Cells that are laid behind others. -/
theorem onto_ok (r : Rel ρ base h w) (hf : ρ h.next = none) {elem size k sLen sCap bytes : Nat} {S : Value} {src : Sem (Array Value)} {Ln : List Value} {old new vs : List AV} {b o p : Nat} {l : Loc} {z : Bool} (hc : sLen + k ≤ sCap)
    (hg : h.get b = some (.cells vs elem false z)) (hb : ρ b = some l) (hcut : cut vs o (sLen * size) = some old) (hp : sLen ≠ 0 ∨ o = 0 → p = l.o + o) (hroom : p + sCap * size ≤ l.c)
    (hn : VRL ρ new Ln) (sn : ∀ Y ∈ Ln, scalar Y) (ln : Ln.length = k * size) (rn : ∀ w' : World, w'.heap = w.heap → src.run P w' = .ok Ln.toArray w') :
    ∃ ρ' V w', (appTail elem size k sLen sCap bytes (some ⟨l.b, p, none⟩) S src).run P w = .ok V w' ∧ Rel ρ' base ((h.set b .dead).new (.cells (old ++ new) elem false (z && Nat.beq o 0))) w' ∧
      Step ρ h w ρ' ((h.set b .dead).new (.cells (old ++ new) elem false (z && Nat.beq o 0))) w' ∧ VR ρ' (.sl h.next 0 (sLen + k) size false) V := by
  obtain ⟨C, fr, h1, h2, h3, h5, h4⟩ := r.obj b _ l hg hb
  have hfr := h3 rfl
  subst hfr
  obtain ⟨q1, q2⟩ := cut_ok hcut
  have hle : (sLen + k) * size ≤ sCap * size := Nat.mul_le_mul_right _ hc
  have hmul : (sLen + k) * size = sLen * size + k * size := Nat.add_mul ..
  have hroom2 : p + sLen * size + 0 + Ln.length ≤ C.size := by rw [ln]; omega
  have hst := run_storeCells (P := P) Ln (p + sLen * size) 0 C w h1 sn hroom2
  let l' : Loc := ⟨l.b, p, l.c⟩
  have hmv := r.move (o' := .cells (old ++ new) elem false (z && Nat.beq o 0)) (l' := l') (O := .cells (setAll C (p + sLen * size + 0) Ln) elem (0, 0)) hf hg rfl hb rfl (by simp) (by
    have hlt := r.lt b l hb
    refine ⟨setAll C (p + sLen * size + 0) Ln, (0, 0), by simp [l', hlt], by rw [setAll_size]; exact h2, fun _ => rfl, ?_, fun i x hx => ?_⟩
    · intro hz
      rw [Bool.and_eq_true] at hz
      have ho := Nat.eq_of_beq_eq_true hz.2
      rw [show l'.o = p from rfl, hp (.inr ho), h5 hz.1, ho]
    · rw [setAll_get _ _ _ _ hroom2]
      rw [show l'.o = p from rfl]
      by_cases a : i < old.length
      · rw [List.getElem?_append_left a] at hx
        rw [if_neg (by omega)]
        have hi : i < sLen * size := by omega
        have hp' := hp (.inl (by intro h0; subst h0; simp at hi))
        rw [q1, List.getElem?_take, if_pos hi, List.getElem?_drop] at hx
        obtain ⟨V, v1, v2, v3⟩ := h4 (o + i) x hx
        rw [hp']
        exact ⟨V, by rw [Nat.add_assoc]; exact v1, v2.mono (.upd hf), v3⟩
      · rw [List.getElem?_append_right (by omega)] at hx
        obtain ⟨V, v1, v2⟩ := hn.get _ x hx
        have hlt2 : i - old.length < Ln.length := (List.getElem?_eq_some_iff.1 v1).1
        rw [if_pos (by omega)]
        refine ⟨V, ?_, v2.mono (.upd hf), sn V (List.mem_of_getElem? v1)⟩
        rw [← v1]
        congr 1
        omega)
  refine ⟨_, .slice (some ⟨l.b, p, none⟩) (sLen + k) sCap, _, ?_, hmv.1, hmv.2, ?_⟩
  · unfold appTail
    rw [if_pos hc, Sem.run_bind, rn w rfl, Result.andThen_ok]
    simp only [Sem.run_bind, addr_add]
    rw [hst]
    rfl
  · simp only [VR]
    exact ⟨l', sCap, p, upd_eq _ _ _, rfl, hc, hroom, by simp, fun _ => rfl⟩

/-- Whether a place is within the tree hangs on the place alone. -/
theorem getF_setF_some {α : Type} (n k : Nat) (t t' : Tr α) (x x' y : α) (_ : getF n (setF n t k x) k = some y) : getF n (setF n t' k x') k = some x' := getF_setF n t' k x'

theorem new_absent {h : Hp} {o o' y : AO} {t : Tr AO} (hy : (h.new o).get h.next = none) (hx : getF 22 (setF 22 t h.next o') h.next = some y) : False := by
  have := getF_setF_some 22 h.next t h.t o' o y hx
  have h2 : getF 22 (setF 22 h.t h.next o) h.next = none := hy
  rw [h2] at this
  cases this

/-- Blocks may be forgotten. -/
theorem Rel.weaken {ρ' : Rho} {w' : World} {h₁ h₂ : Hp} (r : Rel ρ' base h₁ w') (s : Step ρ h w ρ' h₁ w') (hn : h₂.next = h₁.next) (hgg : h₂.g = h₁.g)
    (hh : ∀ j x, h₂.get j = some x → (x = .dead ∧ j < h₁.next) ∨ ∃ y, h₁.get j = some y ∧ (x = y ∨ ∃ vs e ro z, y = .cells vs e ro true ∧ x = .cells vs e ro z)) :
    Rel ρ' base h₂ w' ∧ Step ρ h w ρ' h₂ w' := by
  have hrw : ∀ j x, h₂.get j = some x → rw x = true → ∃ y, h₁.get j = some y ∧ rw y = true := by
    intro j x g rx
    rcases hh j x g with ⟨rfl, _⟩ | ⟨y, gy, rfl | ⟨vs, e, ro, z, rfl, rfl⟩⟩
    · simp [rw] at rx
    · exact ⟨_, gy, rx⟩
    · exact ⟨_, gy, rx⟩
  refine ⟨⟨?_, ?_, ?_, ?_, r.lt, ?_, r.bs, fun g hg => r.glob g (by rw [← hgg]; exact hg), r.laid⟩, ⟨s.sub, fun b hb => s.keep b (by rw [← hn]; exact hb), by rw [hn]; exact s.next, by rw [hgg]; exact s.g, s.os, s.tape, s.output, s.size, s.loops, s.frame, ?_⟩⟩
  · intro j x l g e
    rcases hh j x g with ⟨rfl, _⟩ | ⟨y, gy, rfl | ⟨vs, t, ro, z, rfl, rfl⟩⟩
    · trivial
    · exact r.obj j _ l gy e
    · obtain ⟨c, fr, h1, h2, h3, h5, h4⟩ := r.obj j _ l gy e
      exact ⟨c, fr, h1, h2, h3, fun _ => h5 rfl, h4⟩
  · intro j x l g rx e
    obtain ⟨y, gy, ry⟩ := hrw j x g rx
    exact r.low j y l gy ry e
  · intro j vs t z l g e
    rcases hh j _ g with ⟨h0, _⟩ | ⟨y, gy, h0 | ⟨vs', t', ro, z', rfl, h0⟩⟩
    · cases h0
    · subst h0; exact r.ro j vs t z l gy e
    · injection h0 with a1 a2 a3 a4
      subst a1 a2 a3
      exact r.ro j vs t true l gy e
  · intro j j' x x' l l' g g' rx rx' e e' hl
    obtain ⟨y, gy, ry⟩ := hrw j x g rx
    obtain ⟨y', gy', ry'⟩ := hrw j' x' g' rx'
    exact r.inj j j' y y' l l' gy gy' ry ry' e e' hl
  · intro j x g
    rw [hn]
    rcases hh j x g with ⟨rfl, hj⟩ | ⟨y, gy, _⟩
    · exact hj
    · exact r.dom j y gy
  · intro j x l g rx e
    obtain ⟨y, gy, ry⟩ := hrw j x g rx
    exact s.img j y l gy ry e

theorem src_run {elem size k : Nat} {X : Value} {xd : TypeDesc} {L : List Value} (hk : k ≠ 0) (hl : L.length = k * size)
    (h : if isIntD xd = true then X = .int .i64 (Int.ofNat k) ∧ k ≤ 1000000 ∧ ∃ Z : Value, (∀ w' : World, (zeroValue elem).run P w' = .ok Z w') ∧ L.toArray = Builtin.zeroCells Z.cells k
       else (Builtin.lenOf X).run P w = .ok k w ∧ ∀ w' : World, w'.heap = w.heap → (Builtin.firstCells size k X).run P w' = .ok L.toArray w') :
    ∀ w' : World, w'.heap = w.heap → (srcOf elem size k X (isIntD xd)).run P w' = .ok L.toArray w' := by
  intro w' hw
  unfold srcOf
  cases hi : isIntD xd with
  | true =>
    rw [if_pos hi] at h
    obtain ⟨_, _, Z, hZ, hL⟩ := h
    rw [if_neg (by simp)]
    by_cases h0 : k * size = 0
    · rw [if_pos h0]
      have : L = [] := List.eq_nil_of_length_eq_zero (by omega)
      subst this
      rfl
    · rw [if_neg h0, Sem.run_bind, hZ, Result.andThen_ok, Sem.run_pure, hL]
  | false =>
    rw [if_neg (by simp [hi])] at h
    rw [if_pos (by simp)]
    exact h.2 w' hw

theorem append_ok (r : Rel ρ base h w) (hf : ρ h.next = none) {ats : Array TypeId} {ty : TypeId} {s x v : AV} {S X : Value} {h' : Hp} (hS : VR ρ s S) (hX : VR ρ x X) (he : appendA P ats.toList h s x = some (v, h')) :
    ∃ ρ' V w', (Builtin.append_ ats ty #[S, X]).run P w = .ok V w' ∧ Rel ρ' base h' w' ∧ Step ρ h w ρ' h' w' ∧ VR ρ' v V := by
  unfold appendA at he
  split at he
  · rename_i st xt hts
    have hats : ats = #[st, xt] := by apply Array.ext'; simpa using hts
    subst hats
    split at he
    · rename_i elem xd hd hxd
      cases hsl : isSl s with
      | false => rw [hsl] at he; simp at he
      | true =>
      rw [hsl] at he
      simp only [cond_true] at he
      have key : ∀ (k : Nat) (new : List AV) (size : Nat), szT P elem = some size → (if isIntD xd = true then srcZ P elem x else srcA h size x) = some (k, new) → app1 P h elem s (some (k, new)) = some (v, h') →
          ∃ ρ' V w', (Builtin.append_ #[st, xt] ty #[S, X]).run P w = .ok V w' ∧ Rel ρ' base h' w' ∧ Step ρ h w ρ' h' w' ∧ VR ρ' v V := by
        intro k new size hsz hsrc happ
        obtain ⟨L, a1, a2, a3, a4⟩ := src_ok (P := P) r hsz hxd hX hsrc
        obtain ⟨base', sLen, sCap, rfl, hcap⟩ : ∃ base' sLen sCap, S = .slice base' sLen sCap ∧ sLen ≤ sCap := by
          cases s <;> simp only [isSl, Bool.false_eq_true] at hsl
          · obtain ⟨l, cap, p, _, rfl, h1, _⟩ := hS.slice
            exact ⟨_, _, _, rfl, h1⟩
          · simp only [VR] at hS
            exact ⟨_, _, _, hS, Nat.le_refl _⟩
        have hXr : if isIntD xd = true then X = .int .i64 (Int.ofNat k) ∧ k ≤ 1000000 else (Builtin.lenOf X).run P w = .ok k w := by
          by_cases hi : isIntD xd = true
          · rw [if_pos hi] at a4 ⊢; exact ⟨a4.1, a4.2.1⟩
          · rw [if_neg hi] at a4 ⊢; exact a4.1
        cases k with
        | zero =>
          simp only [app1, Option.some.injEq, Prod.mk.injEq] at happ
          obtain ⟨rfl, rfl⟩ := happ
          obtain ⟨bytes, hby⟩ : ∃ bytes, byT P elem = some bytes := by
            unfold szT at hsz
            split at hsz
            · rename_i i hi; exact ⟨i.bytes, by simp [byT, hi]⟩
            · cases hsz
          have hrun := append_run (P := P) (w := w) (ty := ty) (base := base') (sCap := sCap) (sLen := sLen) hd hxd hsz hby hXr (by simp) (fun hc => absurd hcap hc)
          refine ⟨ρ, _, w, ?_, r, .refl _ _ _, hS⟩
          rw [hrun]
          have hL : L = [] := List.eq_nil_of_length_eq_zero (by simpa using a3)
          subst hL
          have hsr : (srcOf elem size 0 X (isIntD xd)).run P w = .ok #[] w := by
            unfold srcOf
            cases hi : isIntD xd with
            | true => simp
            | false =>
              rw [hi] at a4
              simpa using (a4.2 w rfl)
          unfold appTail
          rw [if_pos (by simpa using hcap), Sem.run_bind, hsr, Result.andThen_ok]
          cases base' <;> simp [storeCells]
        | succ k =>
          have hsr := src_run (P := P) (w := w) (k := k + 1) (by simp) a3 a4
          simp only [app1] at happ
          split at happ
          · rename_i size' bytes z hsz' hby hz
            rw [hsz] at hsz'
            cases hsz'
            cases hq : Nat.beq z.length size && Nat.blt 0 bytes with
            | false => rw [hq] at happ; simp at happ
            | true =>
              rw [hq] at happ
              simp only [cond_true] at happ
              rw [Bool.and_eq_true, blt_iff] at hq
              have hzl := Nat.eq_of_beq_eq_true hq.1
              obtain ⟨Z, hZ, hZs⟩ := zero_run hsz hz hzl
              unfold app2 at happ
              split at happ
              · simp only [VR, Value.slice.injEq] at hS
                obtain ⟨rfl, rfl, rfl⟩ := hS
                cases hq2 : Nat.ble ((2 * (k + 1) + 192) * bytes) 281474976710656 with
                | false => rw [hq2] at happ; simp at happ
                | true =>
                  rw [hq2] at happ
                  simp only [cond_true, Option.some.injEq, Prod.mk.injEq] at happ
                  obtain ⟨rfl, rfl⟩ := happ
                  have hbd := Nat.le_of_ble_eq_true hq2
                  have hkb : (k + 1) * bytes ≤ 281474976710656 := Nat.le_trans (Nat.mul_le_mul_right _ (by omega)) hbd
                  have hrun := append_run (P := P) (w := w) (ty := ty) (base := none) (sCap := 0) (sLen := 0) hd hxd hsz hby hXr hkb (fun _ => ⟨by simpa using hbd, hq.2⟩)
                  obtain ⟨ρ', V, w', g1, g2, g3, g4⟩ := grow_ok (P := P) (sLen := 0) (sCap := 0) (k := k + 1) (size := size) (bytes := bytes) (base' := none) (S := .slice none 0 0) (src := srcOf elem size (k + 1) X (isIntD xd)) (old := []) (Lo := []) r hf (by omega) .nil a1 (by simp) a2 (by simp) a3
                    (fun w' _ => rfl) hsr hZ hZs (by have := Nat.mul_le_mul_left (k + 1) hq.2; omega)
                  rw [Nat.zero_add] at g4
                  exact ⟨ρ', V, w', hrun.trans g1, g2, g3, g4⟩
              · rename_i b o n e clip
                obtain ⟨l, cap, p, e1, e2, h1, h2, h3, h4⟩ := hS.slice
                simp only [Value.slice.injEq] at e2
                obtain ⟨rfl, rfl, rfl⟩ := e2
                cases hq2 : Nat.beq e size && Nat.ble ((2 * (sLen + (k + 1)) + 192) * bytes) 281474976710656 with
                | false => rw [hq2] at happ; simp at happ
                | true =>
                  rw [hq2] at happ
                  simp only [cond_true] at happ
                  rw [Bool.and_eq_true] at hq2
                  have hes := Nat.eq_of_beq_eq_true hq2.1
                  subst hes
                  have hbd := Nat.le_of_ble_eq_true hq2.2
                  have hkb : (k + 1) * bytes ≤ 281474976710656 := Nat.le_trans (Nat.mul_le_mul_right _ (by omega)) hbd
                  have hrun := append_run (P := P) (w := w) (ty := ty) (base := some ⟨l.b, p, none⟩) (sCap := sCap) (sLen := sLen) hd hxd hsz hby hXr hkb (fun _ => ⟨hbd, hq.2⟩)
                  unfold app3 at happ
                  split at happ
                  · rename_i vs el ro z' hg
                    split at happ
                    · rename_i old hcut
                      obtain ⟨Lo, o1, o2, o3, o4⟩ := firstCells_ok (P := P) r e1 hg hcut (p := p) (fun hne => h4 (.inl (by intro h0; subst h0; simp at hne)))
                      have hold : ∀ w' : World, w'.heap = w.heap → (Builtin.firstCells e sLen (.slice (some ⟨l.b, p, none⟩) sLen sCap)).run P w' = .ok Lo.toArray w' := fun w' hw => by simpa [Builtin.firstCells] using o4 w' hw
                      have hsz63 : sLen + (k + 1) ≤ 2 ^ 63 := by have := Nat.mul_le_mul_left (2 * (sLen + (k + 1)) + 192) hq.2; omega
                      have grow := fun hc => grow_ok (P := P) (sLen := sLen) (sCap := sCap) (k := k + 1) (size := e) (bytes := bytes) (base' := some ⟨l.b, p, none⟩) (S := .slice (some ⟨l.b, p, none⟩) sLen sCap) (src := srcOf elem e (k + 1) X (isIntD xd)) r hf hc o1 a1 o2 a2 o3 a3 hold hsr hZ hZs hsz63
                      cases clip with
                      | true =>
                        simp only [cond_true, Option.some.injEq, Prod.mk.injEq] at happ
                        obtain ⟨rfl, rfl⟩ := happ
                        have := h3 rfl
                        obtain ⟨ρ', V, w', g1, g2, g3, g4⟩ := grow (by omega)
                        exact ⟨ρ', V, w', hrun.trans g1, g2, g3, g4⟩
                      | false =>
                        simp only [cond_false] at happ
                        cases hq3 : ro || !Nat.beq el elem with
                        | true => rw [hq3] at happ; simp at happ
                        | false =>
                          rw [hq3] at happ
                          simp only [cond_false, Option.some.injEq, Prod.mk.injEq] at happ
                          obtain ⟨rfl, rfl⟩ := happ
                          rw [Bool.or_eq_false_iff] at hq3
                          have hro := hq3.1
                          subst hro
                          have hel : el = elem := Nat.eq_of_beq_eq_true (by simpa using hq3.2)
                          subst hel
                          by_cases hc : sLen + (k + 1) ≤ sCap
                          · obtain ⟨ρ', V, w', g1, g2, g3, g4⟩ := onto_ok (P := P) (k := k + 1) (bytes := bytes) (S := .slice (some ⟨l.b, p, none⟩) sLen sCap) (src := srcOf el e (k + 1) X (isIntD xd)) r hf hc hg e1 hcut h4 h2 a1 a2 a3 hsr
                            exact ⟨ρ', V, w', hrun.trans g1, g2, g3, g4⟩
                          · obtain ⟨ρ', V, w', g1, g2, g3, g4⟩ := grow hc
                            have hw := Rel.weaken g2 g3 (h₂ := (h.set b .dead).new (.cells (old ++ new) el false (z' && Nat.beq o 0))) rfl rfl (by
                              intro j x hx
                              by_cases hj : j = h.next
                              · subst hj
                                have := Hp.get_new_eq (h := h.set b .dead) hx
                                subst this
                                cases hy : (h.new (.cells (old ++ new) el false true)).get h.next with
                                | none =>
                                  exfalso
                                  have e1 : getF 22 (setF 22 (setF 22 h.t b AO.dead) h.next (.cells (old ++ new) el false (z' && Nat.beq o 0))) h.next = _ := hx
                                  exact new_absent hy e1
                                | some y => exact .inr ⟨y, rfl, by rw [Hp.get_new_eq hy]; exact .inr ⟨_, _, _, _, rfl, rfl⟩⟩
                              · rw [Hp.get_new_ne (h := h.set b .dead) hj] at hx
                                by_cases hb : j = b
                                · subst hb; exact .inl ⟨Hp.get_set_eq hx, Nat.lt_succ_of_lt (r.dom _ _ hg)⟩
                                · rw [Hp.get_set_ne hb] at hx
                                  exact .inr ⟨x, by rw [Hp.get_new_ne hj]; exact hx, .inl rfl⟩)
                            exact ⟨ρ', V, w', hrun.trans g1, hw.1, hw.2, g4⟩
                    · cases happ
                  · cases happ
              · cases happ
          · cases happ
      unfold app0 at he
      split at he
      · rename_i hi
        cases hsz : szT P elem with
        | none =>
          cases hsrc : srcZ P elem x with
          | none => rw [hsrc] at he; simp [app1] at he
          | some kn =>
            unfold srcZ at hsrc
            rw [hsz] at hsrc
            split at hsrc
            · cases hq : Nat.ble _ 1000000 with
              | false => rw [hq] at hsrc; simp at hsrc
              | true => rw [hq] at hsrc; simp at hsrc
            · cases hsrc
        | some size =>
          cases hsrc : srcZ P elem x with
          | none => rw [hsrc] at he; simp [app1] at he
          | some kn =>
            rw [hsrc] at he
            exact key kn.1 kn.2 size hsz (by rw [if_pos hi]; exact hsrc) he
      · rename_i hi
        split at he
        · rename_i size hsz
          cases hsrc : srcA h size x with
          | none => rw [hsrc] at he; simp [app1] at he
          | some kn =>
            rw [hsrc] at he
            exact key kn.1 kn.2 size hsz (by rw [if_neg (by rw [hi]; simp)]; exact hsrc) he
        · cases he
    · cases he
  · cases he

end ops
end Go.Ev
