/- The blocks' counter never falls. -/
import Derived.Test.YtibpgelajmoefaaGreatDoorEv18
namespace Go.Ev
variable {Λ : Laid}

def OR.le (h : Hp) : OR → Prop
  | .val _ h' => h.next ≤ h'.next
  | .skip h' => h.next ≤ h'.next
  | _ => True

section le
variable {P : Program} {h : Hp}
theorem ofV_le {x : Option AV} : OR.le h (OR.ofV h x) := by cases x <;> simp [OR.ofV, OR.le]
theorem k1_le {f : AV → OR} {o : Option AV} (hf : ∀ v, OR.le h (f v)) : OR.le h (k1 f o) := by cases o <;> first | trivial | exact hf _
theorem k2_le {f : AV → AV → OR} {o o' : Option AV} (hf : ∀ v u, OR.le h (f v u)) : OR.le h (k2 f o o') := by
  cases o with
  | none => trivial
  | some v => exact k1_le (hf v)
theorem kL_le {f : List (Nat × AV) → OR} {o : Option (List (Nat × AV))} (hf : ∀ v, OR.le h (f v)) : OR.le h (kL f o) := by cases o <;> first | trivial | exact hf _
theorem kT_le {f : TypeDesc → OR} {o : Option TypeDesc} (hf : ∀ v, OR.le h (f v)) : OR.le h (kT f o) := by cases o <;> first | trivial | exact hf _
theorem cond_le {b : Bool} {x y : OR} (h1 : OR.le h x) (h2 : OR.le h y) : OR.le h (bif b then x else y) := by cases b <;> assumption
theorem update_le {t : TypeId} {m k v : AV} : OR.le h (OR.ofH (updateA P t h m k v)) := by
  cases hu : updateA P t h m k v with
  | none => trivial
  | some h' =>
    show h.next ≤ h'.next
    unfold updateA at hu
    split at hu
    · split at hu
      · cases hc : checkKeyA P 10000 _ k with
        | false => rw [hc] at hu; cases hu
        | true =>
          rw [hc] at hu
          simp only [cond_true] at hu
          split at hu
          · rename_i i _ _
            cases hk : keyAt _ i k with
            | false => rw [hk] at hu; cases hu
            | true => rw [hk] at hu; simp only [cond_true, Option.some.injEq] at hu; subst hu; exact Nat.le_refl _
          · simp only [Option.some.injEq] at hu; subst hu; exact Nat.le_refl _
          · cases hu
      · cases hu
    · cases hu
theorem store_le {t : TypeId} {m k : AV} : OR.le h (OR.ofH (store P t h m k)) := by
  cases hu : store P t h m k with
  | none => trivial
  | some h' =>
    show h.next ≤ h'.next
    unfold store at hu
    split at hu
    · split at hu
      · split at hu
        · split at hu
          · rename_i n _ _ us _
            cases hk : Nat.beq n us.length && Nat.blt 0 n with
            | false => rw [hk] at hu; cases hu
            | true =>
              rw [hk] at hu
              simp only [cond_true] at hu
              split at hu
              · simp only [Option.some.injEq] at hu; subst hu; exact Nat.le_refl _
              · cases hu
          · cases hu
        · cases hu
      · cases hu
    · cases hu
theorem new_le (o : AO) : h.next ≤ (h.new o).next := Nat.le_succ _
theorem app3_le {b o n e elem k : Nat} {clip : Bool} {new : List AV} {x : Option AO} {v : AV} {h' : Hp} (hu : app3 h b o n e elem clip k new x = some (v, h')) : h.next ≤ h'.next := by
  unfold app3 at hu
  split at hu
  · rename_i l el ro z
    split at hu
    · cases clip with
      | true => simp only [cond_true, Option.some.injEq, Prod.mk.injEq] at hu; obtain ⟨_, rfl⟩ := hu; exact Nat.le_succ _
      | false =>
        simp only [cond_false] at hu
        cases hr : ro || !Nat.beq el elem with
        | true => rw [hr] at hu; cases hu
        | false => rw [hr] at hu; simp only [cond_false, Option.some.injEq, Prod.mk.injEq] at hu; obtain ⟨_, rfl⟩ := hu; exact Nat.le_succ _
    · cases hu
  · cases hu
theorem app1_le {elem : Nat} {s : AV} {x : Option (Nat × List AV)} {v : AV} {h' : Hp} (hu : app1 P h elem s x = some (v, h')) : h.next ≤ h'.next := by
  unfold app1 at hu
  split at hu
  · simp only [Option.some.injEq, Prod.mk.injEq] at hu; obtain ⟨_, rfl⟩ := hu; exact Nat.le_refl _
  · rename_i k new
    split at hu
    · rename_i size bytes z _ _ _
      cases hk : Nat.beq z.length size && Nat.blt 0 bytes with
      | false => rw [hk] at hu; cases hu
      | true =>
        rw [hk] at hu
        simp only [cond_true] at hu
        unfold app2 at hu
        split at hu
        · cases hq : Nat.ble ((2 * (k + 1) + 192) * bytes) 281474976710656 with
          | false => rw [hq] at hu; cases hu
          | true => rw [hq] at hu; simp only [cond_true, Option.some.injEq, Prod.mk.injEq] at hu; obtain ⟨_, rfl⟩ := hu; exact Nat.le_succ _
        · rename_i b o n e clip
          cases hq : Nat.beq e size && Nat.ble ((2 * (n + (k + 1)) + 192) * bytes) 281474976710656 with
          | false => rw [hq] at hu; cases hu
          | true => rw [hq] at hu; exact app3_le hu
        · cases hu
    · cases hu
  · cases hu
theorem append_le {ts : List TypeId} {s x v : AV} {h' : Hp} (hu : appendA P ts h s x = some (v, h')) : h.next ≤ h'.next := by
  unfold appendA at hu
  split at hu
  · split at hu
    · rename_i xd _ _
      cases hs : isSl s with
      | false => rw [hs] at hu; cases hu
      | true =>
        rw [hs] at hu
        simp only [cond_true] at hu
        unfold app0 at hu
        split at hu
        · exact app1_le hu
        · split at hu
          · exact app1_le hu
          · cases hu
    · cases hu
  · cases hu

theorem builtin_le {b : Builtin} {ts : List TypeId} {ty : TypeId} {args : List AV} : OR.le h (builtinA P b ts ty h args) := by
  unfold builtinA
  split
  · split
    · split <;> first | exact Nat.le_refl _ | trivial | (split <;> first | exact Nat.le_refl _ | trivial)
    · trivial
  · split
    · rename_i ha; exact append_le ha
    · trivial
  · exact Nat.le_refl _
  · exact Nat.le_refl _
  · exact Nat.le_refl _
  · split
    · split <;> first | exact Nat.le_refl _ | trivial
    · trivial
  · split
    · split
      · split
        · split <;> first | exact Nat.le_refl _ | trivial
        · trivial
      · trivial
    · trivial
  · split
    · split
      · exact Nat.le_refl _
      · refine cond_le (Nat.le_refl _) ?_
        split
        · refine cond_le ?_ trivial
          split
          · exact Nat.le_refl _
          · trivial
        · trivial
      · trivial
    · trivial
  · split
    · exact Nat.le_refl _
    · exact cond_le trivial (Nat.le_refl _)
    · trivial
  · split
    · split
      · exact cond_le (Nat.le_refl _) trivial
      · refine cond_le trivial ?_
        split
        · refine cond_le ?_ trivial
          split
          · exact Nat.le_refl _
          · trivial
        · trivial
      · trivial
    · trivial
  · trivial

theorem aop_le {e : Env} {o : Oper} : OR.le h (aop P e h o) := by
  unfold aop
  cases o.op <;> simp only [aopO] <;> try first | exact ofV_le | trivial
  case pick => refine k1_le fun v => ?_; unfold aPick; split <;> first | exact ofV_le | trivial
  case alloc => refine k1_le fun v => ?_; unfold aAlloc aAlloc2; split <;> first | exact Nat.le_succ _ | trivial
  case box => refine k1_le fun v => ?_; unfold aAlloc aAlloc2; split <;> first | exact Nat.le_succ _ | trivial
  case build =>
    refine kL_le fun v => k1_le fun z => kT_le fun d => ?_
    unfold aBuild
    split
    · split <;> first | exact ofV_le | trivial
    · split <;> first | exact ofV_le | trivial
    · trivial
  case buildSlice =>
    refine kL_le fun v => kT_le fun d => ?_
    unfold aBuildSlice
    split
    · split
      · split
        · refine cond_le ?_ trivial
          unfold aBuildSlice1
          split <;> first | exact Nat.le_succ _ | trivial
        · trivial
      · trivial
    · trivial
  case insert => exact k2_le fun m k => k1_le fun v => update_le
  case mapUpdate => exact k2_le fun m k => k1_le fun v => update_le
  case load => exact k1_le fun v => ofV_le
  case store => exact k2_le fun m k => store_le
  case nilCheck => refine k1_le fun v => ?_; unfold aNilCheck; split <;> first | exact Nat.le_refl _ | trivial
  case binOp => exact k2_le fun m k => ofV_le
  case unOp => exact k1_le fun m => ofV_le
  case convert => exact k1_le fun m => ofV_le
  case makeInterface => refine k1_le fun v => ?_; unfold aIface; split <;> first | exact Nat.le_refl _ | trivial
  case makeFunc => unfold aFunc; split <;> (try split) <;> first | exact Nat.le_refl _ | trivial
  case makeMap t r =>
    cases r with
    | none => exact Nat.le_succ _
    | some r => refine k1_le fun v => ?_; unfold aMakeMap; split <;> (try split) <;> first | exact Nat.le_succ _ | trivial
  case makeSlice =>
    refine k2_le fun v u => ?_
    unfold aMakeSlice
    split
    · unfold aMakeSlice2
      split
      · exact cond_le (Nat.le_succ _) trivial
      · trivial
    · trivial
  case slice => refine k1_le fun v => ?_; unfold aSlice; split <;> first | exact ofV_le | trivial
  case fieldAddr =>
    refine k1_le fun v => ?_
    unfold aFieldAddr
    split
    · split
      · unfold aFieldAddr2; split <;> (try split) <;> first | exact Nat.le_refl _ | trivial
      · trivial
    · trivial
  case field =>
    refine k1_le fun v => ?_
    unfold aField
    split
    · split
      · unfold aField2; split <;> first | exact ofV_le | trivial
      · trivial
    · trivial
  case indexAddr => exact k2_le fun m k => ofV_le
  case index => exact k2_le fun m k => ofV_le
  case lookup => exact k2_le fun m k => ofV_le
  case range => refine k1_le fun v => ?_; unfold aRange; split <;> (try split) <;> first | exact Nat.le_succ _ | trivial
  case next it b =>
    cases b with
    | false => trivial
    | true =>
      refine k1_le fun v => ?_
      unfold nextA
      split
      · split
        · refine cond_le ?_ (Nat.le_refl _)
          exact Nat.le_refl _
        · trivial
      · trivial
  case typeAssert x xt t b =>
    cases b with
    | false => trivial
    | true =>
      refine k1_le fun v => ?_
      unfold aAssert
      split
      · trivial
      · trivial
      · split
        · split <;> first | exact Nat.le_refl _ | trivial
        · exact cond_le (Nat.le_refl _) trivial
        · trivial
  case extract => refine k1_le fun v => ?_; unfold aExtract; split <;> first | exact ofV_le | trivial
  case call c =>
    unfold aCall
    split
    · unfold aCall2
      split
      · rename_i args _ _ _ b _
        have := builtin_le (P := P) (h := h) (b := b) (ts := c.argTypes.toList) (ty := o.type) (args := args)
        cases hb : builtinA P b c.argTypes.toList o.type h args with
        | val v h' => rw [hb] at this; exact this
        | _ => trivial
      · exact k1_le fun v => trivial
      · trivial
    · trivial
  case defer c =>
    unfold aDefer
    split
    · split
      · exact k1_le fun v => trivial
      · trivial
    · trivial

end le
end Go.Ev
