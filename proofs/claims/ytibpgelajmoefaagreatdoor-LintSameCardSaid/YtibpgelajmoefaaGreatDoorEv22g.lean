/- The globals stay. -/
import Derived.Test.YtibpgelajmoefaaGreatDoorEv22
namespace Go.Ev
variable {Λ : Laid}

theorem gtr {a b c : Nat} (x : b = a) (y : c = b) : c = a := y.trans x

def OR.sg (h : Hp) : OR → Prop
  | .val _ h' => h'.g = h.g
  | .skip h' => h'.g = h.g
  | _ => True

section le
variable {P : Program} {h : Hp}
theorem ofV_g {x : Option AV} : OR.sg h (OR.ofV h x) := by cases x <;> simp [OR.ofV, OR.sg]
theorem k1_g {f : AV → OR} {o : Option AV} (hf : ∀ v, OR.sg h (f v)) : OR.sg h (k1 f o) := by cases o <;> first | trivial | exact hf _
theorem k2_g {f : AV → AV → OR} {o o' : Option AV} (hf : ∀ v u, OR.sg h (f v u)) : OR.sg h (k2 f o o') := by
  cases o with
  | none => trivial
  | some v => exact k1_g (hf v)
theorem kL_g {f : List (Nat × AV) → OR} {o : Option (List (Nat × AV))} (hf : ∀ v, OR.sg h (f v)) : OR.sg h (kL f o) := by cases o <;> first | trivial | exact hf _
theorem kT_g {f : TypeDesc → OR} {o : Option TypeDesc} (hf : ∀ v, OR.sg h (f v)) : OR.sg h (kT f o) := by cases o <;> first | trivial | exact hf _
theorem cond_g {b : Bool} {x y : OR} (h1 : OR.sg h x) (h2 : OR.sg h y) : OR.sg h (bif b then x else y) := by cases b <;> assumption
theorem update_g {t : TypeId} {m k v : AV} : OR.sg h (OR.ofH (updateA P t h m k v)) := by
  cases hu : updateA P t h m k v with
  | none => trivial
  | some h' =>
    show h'.g = h.g
    unfold updateA at hu
    split at hu
    · split at hu
      · cases hc : checkKeyA P 10000 _ k with
        | false => rw [hc] at hu; cases hu
        | true =>
          rw [hc] at hu
          simp only [cond_true] at hu
          split at hu
          · rename_i i _ _
            cases hk : keyAt _ i k with
            | false => rw [hk] at hu; cases hu
            | true => rw [hk] at hu; simp only [cond_true, Option.some.injEq] at hu; subst hu; exact rfl
          · simp only [Option.some.injEq] at hu; subst hu; exact rfl
          · cases hu
      · cases hu
    · cases hu
theorem store_g {t : TypeId} {m k : AV} : OR.sg h (OR.ofH (store P t h m k)) := by
  cases hu : store P t h m k with
  | none => trivial
  | some h' =>
    show h'.g = h.g
    unfold store at hu
    split at hu
    · split at hu
      · split at hu
        · split at hu
          · rename_i n _ _ us _
            cases hk : Nat.beq n us.length && Nat.blt 0 n with
            | false => rw [hk] at hu; cases hu
            | true =>
              rw [hk] at hu
              simp only [cond_true] at hu
              split at hu
              · simp only [Option.some.injEq] at hu; subst hu; exact rfl
              · cases hu
          · cases hu
        · cases hu
      · cases hu
    · cases hu
theorem new_g (o : AO) : (h.new o).g = h.g := rfl
theorem app3_g {b o n e elem k : Nat} {clip : Bool} {new : List AV} {x : Option AO} {v : AV} {h' : Hp} (hu : app3 h b o n e elem clip k new x = some (v, h')) : h'.g = h.g := by
  unfold app3 at hu
  split at hu
  · rename_i l el ro z
    split at hu
    · cases clip with
      | true => simp only [cond_true, Option.some.injEq, Prod.mk.injEq] at hu; obtain ⟨_, rfl⟩ := hu; exact rfl
      | false =>
        simp only [cond_false] at hu
        cases hr : ro || !Nat.beq el elem with
        | true => rw [hr] at hu; cases hu
        | false => rw [hr] at hu; simp only [cond_false, Option.some.injEq, Prod.mk.injEq] at hu; obtain ⟨_, rfl⟩ := hu; exact rfl
    · cases hu
  · cases hu
theorem app1_g {elem : Nat} {s : AV} {x : Option (Nat × List AV)} {v : AV} {h' : Hp} (hu : app1 P h elem s x = some (v, h')) : h'.g = h.g := by
  unfold app1 at hu
  split at hu
  · simp only [Option.some.injEq, Prod.mk.injEq] at hu; obtain ⟨_, rfl⟩ := hu; exact rfl
  · rename_i k new
    split at hu
    · rename_i size bytes z _ _ _
      cases hk : Nat.beq z.length size && Nat.blt 0 bytes with
      | false => rw [hk] at hu; cases hu
      | true =>
        rw [hk] at hu
        simp only [cond_true] at hu
        unfold app2 at hu
        split at hu
        · cases hq : Nat.ble ((2 * (k + 1) + 192) * bytes) 281474976710656 with
          | false => rw [hq] at hu; cases hu
          | true => rw [hq] at hu; simp only [cond_true, Option.some.injEq, Prod.mk.injEq] at hu; obtain ⟨_, rfl⟩ := hu; exact rfl
        · rename_i b o n e clip
          cases hq : Nat.beq e size && Nat.ble ((2 * (n + (k + 1)) + 192) * bytes) 281474976710656 with
          | false => rw [hq] at hu; cases hu
          | true => rw [hq] at hu; exact app3_g hu
        · cases hu
    · cases hu
  · cases hu
theorem append_g {ts : List TypeId} {s x v : AV} {h' : Hp} (hu : appendA P ts h s x = some (v, h')) : h'.g = h.g := by
  unfold appendA at hu
  split at hu
  · split at hu
    · rename_i xd _ _
      cases hs : isSl s with
      | false => rw [hs] at hu; cases hu
      | true =>
        rw [hs] at hu
        simp only [cond_true] at hu
        unfold app0 at hu
        split at hu
        · exact app1_g hu
        · split at hu
          · exact app1_g hu
          · cases hu
    · cases hu
  · cases hu

theorem builtin_g {b : Builtin} {ts : List TypeId} {ty : TypeId} {args : List AV} : OR.sg h (builtinA P b ts ty h args) := by
  unfold builtinA
  split
  · split
    · split <;> first | exact rfl | trivial | (split <;> first | exact rfl | trivial)
    · trivial
  · split
    · rename_i ha; exact append_g ha
    · trivial
  · exact rfl
  · exact rfl
  · exact rfl
  · split
    · split <;> first | exact rfl | trivial
    · trivial
  · split
    · split
      · split
        · split <;> first | exact rfl | trivial
        · trivial
      · trivial
    · trivial
  · split
    · split
      · exact rfl
      · refine cond_g (rfl) ?_
        split
        · refine cond_g ?_ trivial
          split
          · exact rfl
          · trivial
        · trivial
      · trivial
    · trivial
  · split
    · exact rfl
    · exact cond_g trivial (rfl)
    · trivial
  · split
    · split
      · exact cond_g (rfl) trivial
      · refine cond_g trivial ?_
        split
        · refine cond_g ?_ trivial
          split
          · exact rfl
          · trivial
        · trivial
      · trivial
    · trivial
  · trivial

theorem aop_g {e : Env} {o : Oper} : OR.sg h (aop P e h o) := by
  unfold aop
  cases o.op <;> simp only [aopO] <;> try first | exact ofV_g | trivial
  case pick => refine k1_g fun v => ?_; unfold aPick; split <;> first | exact ofV_g | trivial
  case alloc => refine k1_g fun v => ?_; unfold aAlloc aAlloc2; split <;> first | exact rfl | trivial
  case box => refine k1_g fun v => ?_; unfold aAlloc aAlloc2; split <;> first | exact rfl | trivial
  case build =>
    refine kL_g fun v => k1_g fun z => kT_g fun d => ?_
    unfold aBuild
    split
    · split <;> first | exact ofV_g | trivial
    · split <;> first | exact ofV_g | trivial
    · trivial
  case buildSlice =>
    refine kL_g fun v => kT_g fun d => ?_
    unfold aBuildSlice
    split
    · split
      · split
        · refine cond_g ?_ trivial
          unfold aBuildSlice1
          split <;> first | exact rfl | trivial
        · trivial
      · trivial
    · trivial
  case insert => exact k2_g fun m k => k1_g fun v => update_g
  case mapUpdate => exact k2_g fun m k => k1_g fun v => update_g
  case load => exact k1_g fun v => ofV_g
  case store => exact k2_g fun m k => store_g
  case nilCheck => refine k1_g fun v => ?_; unfold aNilCheck; split <;> first | exact rfl | trivial
  case binOp => exact k2_g fun m k => ofV_g
  case unOp => exact k1_g fun m => ofV_g
  case convert => exact k1_g fun m => ofV_g
  case makeInterface => refine k1_g fun v => ?_; unfold aIface; split <;> first | exact rfl | trivial
  case makeFunc => unfold aFunc; split <;> (try split) <;> first | exact rfl | trivial
  case makeMap t r =>
    cases r with
    | none => exact rfl
    | some r => refine k1_g fun v => ?_; unfold aMakeMap; split <;> (try split) <;> first | exact rfl | trivial
  case makeSlice =>
    refine k2_g fun v u => ?_
    unfold aMakeSlice
    split
    · unfold aMakeSlice2
      split
      · exact cond_g (rfl) trivial
      · trivial
    · trivial
  case slice => refine k1_g fun v => ?_; unfold aSlice; split <;> first | exact ofV_g | trivial
  case fieldAddr =>
    refine k1_g fun v => ?_
    unfold aFieldAddr
    split
    · split
      · unfold aFieldAddr2; split <;> (try split) <;> first | exact rfl | trivial
      · trivial
    · trivial
  case field =>
    refine k1_g fun v => ?_
    unfold aField
    split
    · split
      · unfold aField2; split <;> first | exact ofV_g | trivial
      · trivial
    · trivial
  case indexAddr => exact k2_g fun m k => ofV_g
  case index => exact k2_g fun m k => ofV_g
  case lookup => exact k2_g fun m k => ofV_g
  case range => refine k1_g fun v => ?_; unfold aRange; split <;> (try split) <;> first | exact rfl | trivial
  case next it b =>
    cases b with
    | false => trivial
    | true =>
      refine k1_g fun v => ?_
      unfold nextA
      split
      · split
        · refine cond_g ?_ (rfl)
          exact rfl
        · trivial
      · trivial
  case typeAssert x xt t b =>
    cases b with
    | false => trivial
    | true =>
      refine k1_g fun v => ?_
      unfold aAssert
      split
      · trivial
      · trivial
      · split
        · split <;> first | exact rfl | trivial
        · exact cond_g (rfl) trivial
        · trivial
  case extract => refine k1_g fun v => ?_; unfold aExtract; split <;> first | exact ofV_g | trivial
  case call c =>
    unfold aCall
    split
    · unfold aCall2
      split
      · rename_i args _ _ _ b _
        have := builtin_g (P := P) (h := h) (b := b) (ts := c.argTypes.toList) (ty := o.type) (args := args)
        cases hb : builtinA P b c.argTypes.toList o.type h args with
        | val v h' => rw [hb] at this; exact this
        | _ => trivial
      · exact k1_g fun v => trivial
      · trivial
    · trivial
  case defer c =>
    unfold aDefer
    split
    · split
      · exact k1_g fun v => trivial
      · trivial
    · trivial


variable {rec : Req → Out}
structure EvG (rec : Req → Out) : Prop where
  code : ∀ c e h d r x e' h' d', rec (.code c e h d r) = .done x e' h' d' → h'.g = h.g
  call : ∀ f a h v h', rec (.call f a h) = .ret v h' → h'.g = h.g

theorem o3_g (hr : EvG rec) {h h' : Hp} {d d' : List AD} {R : OR} {v : AV} (hR : OR.sg h R) (he : o3 rec h d R = .is v h' d') : h'.g = h.g := by
  cases R with
  | val u h1 => simp only [o3, O3.is.injEq] at he; obtain ⟨_, rfl, _⟩ := he; exact hR
  | skip h1 => simp only [o3, O3.is.injEq] at he; obtain ⟨_, rfl, _⟩ := he; exact hR
  | call f a =>
    simp only [o3] at he
    cases hc : rec (.call f a h) with
    | ret u h1 => rw [hc] at he; simp only [o3Call, O3.is.injEq] at he; obtain ⟨_, rfl, _⟩ := he; exact hr.call _ _ _ _ _ hc
    | done x e h d => rw [hc] at he; cases he
    | no => rw [hc] at he; cases he
  | dfr f a =>
    simp only [o3] at he
    cases hf : isFunc f with
    | false => rw [hf] at he; cases he
    | true => rw [hf] at he; simp only [cond_true, O3.is.injEq] at he; obtain ⟨_, rfl, _⟩ := he; exact rfl
  | no => cases he

theorem evOps_g (hr : EvG rec) {ops : List Oper} : ∀ {l : List Oper} {e : Env} {h : Hp} {d : List AD} {x : Ex} {e' : Env} {h' : Hp} {d' : List AD}, evOps P rec ops l e h d = .done x e' h' d' → h'.g = h.g
  | [], e, h, d, x, e', h', d', he => by
    change Out.done .normal e h d = _ at he
    injection he with _ _ h3 _
    rw [h3]
  | o :: l, e, h, d, x, e', h', d', he => by
    rcases evOps_cons he with ⟨_, h2⟩ | ⟨_, v, h1, d1, h3, h4⟩
    · exact evOps_g hr h2
    · exact gtr (o3_g hr aop_g h3) (evOps_g hr h4)

theorem evD_g (hr : EvG rec) {ops : List Oper} : ∀ {l : List PE} {e : Env} {h : Hp} {d : List AD} {W : List Watch} {x : Ex} {e' : Env} {h' : Hp} {d' : List AD}, evD P rec ops l e h d W = .done x e' h' d' → h'.g = h.g
  | [], e, h, d, W, x, e', h', d', he => by
    change Out.done .normal e h d = _ at he
    injection he with _ _ h3 _
    rw [h3]
  | p :: l, e, h, d, W, x, e', h', d', he => by
    rcases evD_cons he with ⟨_, h2⟩ | ⟨_, v, h1, d1, h3, h4⟩
    · exact evD_g hr h2
    · have hle : h1.g = h.g := by
        split at h3
        · exact o3_g (h := h.bump) hr aop_g h3
        · exact o3_g hr aop_g h3
      rcases h4 with ⟨_, h4⟩ | ⟨_, h4⟩ | ⟨_, W', _, h4⟩
      · exact gtr hle (evD_g hr h4)
      · exact gtr hle (evD_g hr h4)
      · exact gtr hle (evD_g hr h4)

theorem runD_g (hr : EvG rec) : ∀ {d : List AD} {h h' : Hp}, runD rec d h = some h' → h'.g = h.g
  | [], h, h', he => by simp only [runD, Option.some.injEq] at he; rw [he]
  | .mark b :: d, h, h', he => by
    simp only [runD] at he
    split at he
    · exact runD_g hr (h := h.set b .dead) he
    · cases he
  | .call f args :: d, h, h', he => by
    simp only [runD] at he
    cases hf : isFunc f with
    | false => rw [hf] at he; cases he
    | true =>
      rw [hf] at he
      simp only [cond_true] at he
      split at he
      · rename_i v h1 hc
        exact gtr (hr.call _ _ _ _ _ hc) (runD_g hr he)
      · cases he

theorem evRF1_g (hr : EvG rec) {e : Env} {h : Hp} {d : List AD} {ps : List Tmp} {asg body : Code} {fv : AV} {x : Ex} {e' : Env} {h' : Hp} {d' : List AD} (he : evRF1 rec e h d ps asg body fv = .done x e' h' d') : h'.g = h.g := by
  obtain ⟨v, h1, st, pend, en, ps', asg', body', hc, _, _, _, _, _, rfl⟩ := evRF_inv he
  exact (show (h1.set h.next _).g = h1.g from rfl).trans ((hr.call _ _ _ _ _ hc).trans rfl)

theorem evCode_g (hr : EvG rec) {c : Code} {e : Env} {h : Hp} {d : List AD} {r : Bool} {x : Ex} {e' : Env} {h' : Hp} {d' : List AD} (he : evCode P rec e h d r c = .done x e' h' d') : h'.g = h.g := by
  have base : ∀ {y : Ex}, Out.done y e h d = .done x e' h' d' → h'.g = h.g := fun q => by injection q with _ _ q _; rw [q]
  have seq : ∀ {b : Code} {o : Out}, (∀ y e1 h1 d1, o = .done y e1 h1 d1 → h1.g = h.g) → evSeq rec b r o = .done x e' h' d' → h'.g = h.g := by
    intro b o ho hs
    cases o with
    | no => cases hs
    | ret v h1 => cases hs
    | done y e1 h1 d1 =>
      cases y with
      | normal => exact gtr (ho _ _ _ _ rfl) (hr.code _ _ _ _ _ _ _ _ _ hs)
      | exit id => injection hs with _ _ q _; rw [← q]; exact ho _ _ _ _ rfl
      | ret => injection hs with _ _ q _; rw [← q]; exact ho _ _ _ _ rfl
  cases c <;> simp only [evCode] at he <;> try first | exact base he | (cases he; done)
  case region id ops draw =>
    cases draw with
    | false => exact evOps_g hr he
    | true =>
      simp only [cond_true] at he
      cases hp : planOf ops.toList with
      | none => rw [hp] at he; cases he
      | some l => rw [hp] at he; exact evD_g hr he
  case seq a b => exact seq (fun y e1 h1 d1 q => hr.code _ _ _ _ _ _ _ _ _ q) he
  case cond c a b =>
    unfold evCond at he
    split at he
    · exact hr.code _ _ _ _ _ _ _ _ _ he
    · cases he
  case block id a =>
    unfold evBlock at he
    split at he
    · rename_i j e1 h1 d1 hc
      injection he with _ _ q _
      rw [← q]; exact hr.code _ _ _ _ _ _ _ _ _ hc
    · exact hr.code _ _ _ _ _ _ _ _ _ he
  case loop a => exact seq (fun y e1 h1 d1 q => hr.code _ _ _ _ _ _ _ _ _ q) he
  case scope a => exact hr.code _ _ _ _ _ _ _ _ _ he
  case rangeFunc f ps asg body =>
    unfold evRF at he
    split at he
    · cases r with
      | true => exact evRF1_g hr he
      | false => exact gtr (rfl) (evRF1_g hr (h := h.new .deferred) he)
    · cases he

theorem externA_g {fn : Func} {h h' : Hp} {args : List AV} {v : AV} (he : externA P fn h args = .val v h') : h'.g = h.g := by
  unfold externA at he
  cases hq : fn.name == "internal/abi.NoEscape" with
  | true =>
    rw [hq] at he
    simp only [cond_true] at he
    split at he
    · injection he with _ q; rw [q]
    · cases he
  | false =>
    rw [hq] at he
    simp only [cond_false] at he
    cases hq : fn.name == "internal/bytealg.IndexByteString" with
    | true =>
      rw [hq] at he
      simp only [cond_true] at he
      split at he
      · rename_i c
        cases hc : Nat.blt c 256 with
        | false => rw [hc] at he; cases he
        | true => rw [hc] at he; simp only [cond_true] at he; injection he with _ q; rw [q]
      · cases he
    | false =>
      rw [hq] at he
      simp only [cond_false] at he
      cases hq : fn.name == "internal/bytealg.MakeNoZero" with
      | false => rw [hq] at he; cases he
      | true =>
        rw [hq] at he
        simp only [cond_true] at he
        unfold extMake at he
        split at he
        · split at he
          · split at he
            · rename_i n _ _ _ _ _ _ _
              cases hn : Nat.ble _ 1000000000 with
              | false => rw [hn] at he; cases he
              | true => rw [hn] at he; simp only [cond_true] at he; injection he with _ q; rw [← q]; exact rfl
            · cases he
          · cases he
        · cases he

theorem evCall_g (hr : EvG rec) {f : AV} {args : List AV} {h h' : Hp} {v : AV} (he : evCall P rec args h f = .ret v h') : h'.g = h.g := by
  unfold evCall at he
  split at he
  · unfold evFunc at he
    split at he
    · rename_i fn _
      unfold evFunc2 at he
      split at he
      · rename_i c _
        obtain ⟨x, e, h1, d, hc, _, h2, vs, hrd, rfl, _⟩ := evEnd_inv he
        exact gtr (hr.code _ _ _ _ _ _ _ _ _ hc) (runD_g hr hrd)
      · unfold evExt at he
        split at he
        · rename_i hx
          injection he with q1 q2; subst q1 q2
          exact externA_g hx
        · cases he
    · cases he
  · obtain ⟨st, pend, en, ps, asg, body, e1, hg, hp, e2, h2, hc, pend2, en2, ps2, asg2, bd2, hg2, x, e3, h3, hc2, st4, pend4, en4, ps4, asg4, bd4, hg4, hx⟩ := evY_inv he
    have q1 := hr.code _ _ _ _ _ _ _ _ _ hc
    have q2 := hr.code _ _ _ _ _ _ _ _ _ hc2
    have q3 : h'.g = h3.g := by rcases hx with ⟨_, _, rfl⟩ | ⟨_, _, rfl⟩ <;> rfl
    rw [q3]
    exact gtr q1 q2
  · cases he

theorem ev_g : ∀ n, EvG (ev P n)
  | 0 => ⟨(fun c e h d r x e' h' d' he => by cases he), (fun f a h v h' he => by cases he)⟩
  | n + 1 => ⟨(fun c e h d r x e' h' d' he => evCode_g (ev_g n) he), (fun f a h v h' he => evCall_g (ev_g n) he)⟩


end le
end Go.Ev
