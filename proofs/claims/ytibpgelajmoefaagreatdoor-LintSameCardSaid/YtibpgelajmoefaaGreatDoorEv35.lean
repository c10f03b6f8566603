/- From the evaluator to a row: what is laid, the call, what is told behind it. -/
import Derived.Test.YtibpgelajmoefaaGreatDoorEv34
import Derived.ProofKit
import Derived.OpenShut
import Derived.Lib.LaidTab
namespace Go.Ev
open Go.RowKit

/-- One package-level table, and N variables in all. -/
noncomputable def roHp (N a : Nat) (l : List AV) (t : TypeId) : Hp := (Hp.mk .lf N N).set a (.cells l t true true)

theorem roHp_get {N a : Nat} {l : List AV} {t : TypeId} {b : Nat} {o : AO} (h : (roHp N a l t).get b = some o) : b = a ∧ o = .cells l t true true := by
  by_cases e : b = a
  · subst e; exact ⟨rfl, Hp.get_set_eq h⟩
  · unfold roHp at h
    rw [Hp.get_set_ne e] at h
    unfold Hp.get at h
    rw [getF_lf] at h
    cases h

theorem roHp_ro {N a : Nat} {l : List AV} {t : TypeId} (ha : a < N) : RoHp (roHp N a l t) :=
  ⟨fun b o h => by rw [(roHp_get h).2]; rfl, fun b o h => by rw [(roHp_get h).1]; exact ha⟩

def cellsAt (W : World) (g : Nat) : Array Value := match W.heap[g]? with
  | some (.cells c _ _) => c
  | _ => #[]

theorem roRel_of {N a : Nat} {zs : List Int} {k : IntKind} {t : TypeId} {W : World} {c : Array Value} {f : Nat × Nat} (hc : W.heap[a]? = some (.cells c t f)) (hz : c = (zs.map fun z => Value.int k z).toArray) (ha : a < N) (hsz : N ≤ W.heap.size) :
    ∃ ρ, RoRel ρ W.heap.size (roHp N a (zs.map fun z => .int k z) t) W := by
  refine ⟨fun g => if g < N then some ⟨g, 0, (cellsAt W g).size⟩ else none, ⟨fun b o l hg he => ?_, fun b l he => ?_, fun g hg => ⟨_, if_pos hg⟩, fun b hb => if_neg (Nat.not_lt.2 hb)⟩⟩
  · obtain ⟨rfl, rfl⟩ := roHp_get hg
    rw [if_pos ha] at he
    injection he with he
    subst he
    have hcs : cellsAt W b = c := by simp [cellsAt, hc]
    refine ⟨c, f, hc, by rw [hcs], (by intro q; cases q), fun _ => rfl, fun i v hv => ?_⟩
    subst hz
    rw [List.getElem?_map, Option.map_eq_some_iff] at hv
    obtain ⟨z, hz, rfl⟩ := hv
    refine ⟨.int k z, ?_, by simp only [VR], trivial⟩
    simp [hz]
  · by_cases hb : b < N
    · rw [if_pos hb] at he
      injection he with he
      subst he
      exact Nat.lt_of_lt_of_le hb hsz
    · rw [if_neg hb] at he; cases he

/-- A call of the evaluator's is a call of the model's. -/
theorem calls_of {hG : Hp} (hr : RoHp hG) {P : Program} {g : Nat} {fn : Func} {c : Code} (hfn : P.funcs[g]? = some fn) (hn : (fn.name == "runtime.NumGoroutine") = false) (hb : fn.body = some c) {args : List AV} {v : AV} {h' : Hp}
    (hc : CallOk (laidOf hG) P (.fn (.func g) [] []) args hG v h') {ρ : Rho} {W : World} (r : RoRel ρ W.heap.size hG W) {A : Array Value} (hA : VRL ρ args A.toList) :
    Calls P g A W fun e w' => ∃ V ρ', e = .returned V ∧ VR ρ' v V ∧ Below W.heap.size W w' := by
  intro cs
  have hF : VR ρ (.fn (.func g) [] []) (.func (.func g) #[] #[]) := by
    simp only [VR, FnR, VRL]
    exact ⟨_, _, _, rfl, rfl, rfl, rfl⟩
  obtain ⟨N, w₁, hrun, hN, _⟩ := hc (.func (.func g) #[] #[]) A W ρ ⟨W.heap.size⟩ hF hA (r.rel hr (Nat.le_refl _)) fun i hi _ => r.fresh i hi
  have hinv : (do let d ← Deferred.ofValue (.func (.func g) #[] #[]) A; invoke d.target d.args : Sem Next).run P W = (callFunc g ((#[] ++ A) ++ #[])).run P W := rfl
  rw [hinv, callFunc_run hfn hn hb] at hrun
  have e1 : (#[] ++ A) ++ #[] = A := by simp
  rw [e1] at hrun
  injection hrun with q1 q2
  subst q1 q2
  obtain ⟨x, V, w', z1, z2, z3, ρ', z4, z5, z6⟩ := hN .normal cs (.inl rfl)
  refine ⟨.returned V, w', x, ⟨V, ρ', rfl, z4, z6.os, z6.tape, z6.output, z6.size, fun B hB => z6.frame B hB fun b o l q rx _ => by rw [hr.ro b o q] at rx; cases rx⟩, z1, z2, z3⟩

section
variable {H : Type} {enc : TypeId × Value → H} {P : Program}

/-- What a row tells behind a call that turned nothing that was there. -/
theorem post_below {f : Func} {s : ChangeSpec} {apart fresh handsOn : Bool} {W W' : World} {args : Array Value} {v : Value} {ds gs : List (DataW H)} {before pa pv : List MemPlace}
    (hW : DataW.Whole enc P f.params.toList s.vars apart W args.toList ds gs before)
    (hres : ∀ (b : Nat) (sp : Nat → Bool) (hd : Bool), DataW.TrodAll enc P W' b sp hd f.resultTypes.toList (v.resultList f.resultTypes.size) (s.fn H (ds ++ gs)).results [])
    (hargs : ∀ sp : Nat → Bool, (∀ p ∈ before, sp p.block = true) → DataW.TrodAll enc P W' 0 sp true f.params.toList args.toList (s.fn H (ds ++ gs)).args pa)
    (hvars : ∀ sp : Nat → Bool, (∀ p ∈ before, sp p.block = true) → DataW.TrodVars enc P W' sp s.vars (s.fn H (ds ++ gs)).vars pv)
    (hb : Below W.heap.size W W') : s.post enc P f apart fresh handsOn false W args v W' := by
  have hold : ∀ p ∈ before, (fun b => decide (b < W.heap.size)) p.block = true := fun p hp => by simpa using hW.lt p hp
  exact ⟨ds, gs, before, [], pa, pv, hW, hres _ _ _, hargs _ hold, hvars _ hold, hb.frame _, fun q => by cases q⟩
end

/-- A number of a class. -/
theorem VR.cls_of {ρ : Rho} {k : IntKind} {m b : Nat} {n : Int} (h0 : 0 ≤ n) (hb : n < b) : VR ρ (.cls k m (n.toNat % m) b) (.int k n) := by
  simp only [VR]
  refine ⟨n.toNat, ?_, rfl, by omega⟩
  rw [show Int.ofNat n.toNat = n from by simp; omega]

end Go.Ev
