/- The evaluator once more: what follows is handed on: for the kernel, which keeps less so. -/
import Derived.Test.YtibpgelajmoefaaGreatDoorEv36
namespace Go.Ev

abbrev KC := Ex → Env → Hp → List AD → Out
abbrev KR := AV → Hp → Out
abbrev CL := AV → List AV → Hp → KR → Out
noncomputable def appC : Out → KC → Out := Out.rec (motive := fun _ => KC → Out) (fun x e h d k => k x e h d) (fun _ _ _ => .no) (fun _ => .no)
noncomputable def appR : Out → KR → Out := Out.rec (motive := fun _ => KR → Out) (fun _ _ _ _ _ => .no) (fun v h k => k v h) (fun _ => .no)
inductive Rq where
  | code (c : Code) (e : Env) (h : Hp) (d : List AD) (r : Bool) (k : KC)
  | call (f : AV) (args : List AV) (h : Hp) (k : KR)

theorem kRet_eq (o : Out) (d : List AD) (k : KV) : kRet o d k = appR o fun v h => k v h d := by cases o <;> rfl
noncomputable def cCallee : Callee → List TypeId → TypeId → List AV → Program → CL → Env → Hp → List AD → KV → Out :=
  Callee.rec (motive := fun _ => List TypeId → TypeId → List AV → Program → CL → Env → Hp → List AD → KV → Out)
    (fun f _ _ args _ cl e h d k => kO (fOpd f h.g e) fun f => cl f args h fun v h => k v h d)
    (fun _ _ _ _ _ _ _ _ _ _ _ => .no)
    (fun b ts ty args P _ _ h d k => fBI b ts ty args P h d k)
noncomputable def cOp : Op → TypeId → Program → (Req → Out) → CL → Env → Hp → List AD → KV → Out :=
  Op.rec (motive := fun _ => TypeId → Program → (Req → Out) → CL → Env → Hp → List AD → KV → Out)
    (fun x ty P rec cl e h d k => kO (fOpd x h.g e) fun v => k v h d)
    (fun x ty P rec cl e h d k => kO (fOpd x h.g e) fun v => k v h d)
    (fun c a b ty P rec cl e h d k => kO (fOpd c h.g e) fun c => fPick c (fOpd a h.g e) (fOpd b h.g e) fun v => k v h d)
    (fun t ty P rec cl e h d k => kO (zT P t) fun z => kL' (fCells z) fun l => k (.ptr h.next 0) (h.new (.cells l t false true)) d)
    (fun t x ty P rec cl e h d k => kO (fOpd x h.g e) fun z => kL' (fCells z) fun l => k (.ptr h.next 0) (h.new (.cells l t false true)) d)
    (fun t ps ty P rec cl e h d k => fParts ps.toList h.g e fun vs => fBuild (bZ P t) (bP P t) P t vs h d k)
    (fun t len ps ty P rec cl e h d k => kO3 (o3 rec h d (aopO P e h ty (.buildSlice t len ps))) k)
    (fun t m kk v ty P rec cl e h d k => kO3 (o3 rec h d (aopO P e h ty (.insert t m kk v))) k)
    (fun t a ty P rec cl e h d k => kO (fOpd a h.g e) fun a => fLoad a P t h fun v => k v h d)
    (fun t a v ty P rec cl e h d k => kO (fOpd a h.g e) fun a => kO (fOpd v h.g e) fun v => fStore a v P t h fun h => k (.tup []) h d)
    (fun g ty P rec cl e h d k => kO3 (o3 rec h d (aopO P e h ty (.ready g))) k)
    (fun g ty P rec cl e h d k => kO3 (o3 rec h d (aopO P e h ty (.waits g))) k)
    (fun x ty P rec cl e h d k => kO (fOpd x h.g e) fun x => kOR (aNilCheck h x) d k)
    (fun op t x y yt ty P rec cl e h d k => kO (fOpd x h.g e) fun a => kO (fOpd y h.g e) fun b => fBin a b op P t x y fun v => k v h d)
    (fun op t x ty P rec cl e h d k => kO (fOpd x h.g e) fun a => fUn a op fun v => k v h d)
    (fun s t x ty P rec cl e h d k => kO (fOpd x h.g e) fun x => fConv x h P s t fun v => k v h d)
    (fun t x ty P rec cl e h d k => kO3 (o3 rec h d (aopO P e h ty (.sliceToArrayPointer t x))) k)
    (fun t x ty P rec cl e h d k => kO3 (o3 rec h d (aopO P e h ty (.makeInterface t x))) k)
    (fun fn a c ty P rec cl e h d k => kO3 (o3 rec h d (aopO P e h ty (.makeFunc fn a c))) k)
    (fun t r ty P rec cl e h d k => kO3 (o3 rec h d (aopO P e h ty (.makeMap t r))) k)
    (fun t s ty P rec cl e h d k => kO3 (o3 rec h d (aopO P e h ty (.makeChan t s))) k)
    (fun t l c ty P rec cl e h d k => kO3 (o3 rec h d (aopO P e h ty (.makeSlice t l c))) k)
    (fun t x lo hi mx ty P rec cl e h d k => kO3 (o3 rec h d (aopO P e h ty (.slice t x lo hi mx))) k)
    (fun t x f ty P rec cl e h d k => kO (fOpd x h.g e) fun x => fFA x P t f fun v => k v h d)
    (fun t x f ty P rec cl e h d k => kO3 (o3 rec h d (aopO P e h ty (.field t x f))) k)
    (fun t x i ty P rec cl e h d k => kO (fOpd x h.g e) fun x => kO (fOpd i h.g e) fun i => fIA x i P t fun v => k v h d)
    (fun t x i ty P rec cl e h d k => kO (fOpd x h.g e) fun x => kO (fOpd i h.g e) fun i => fIdx x i P t fun v => k v h d)
    (fun t x i ok ty P rec cl e h d k => kO3 (o3 rec h d (aopO P e h ty (.lookup t x i ok))) k)
    (fun t m kk v ty P rec cl e h d k => kO3 (o3 rec h d (aopO P e h ty (.mapUpdate t m kk v))) k)
    (fun t m kk ty P rec cl e h d k => kO3 (o3 rec h d (aopO P e h ty (.mapEntry t m kk))) k)
    (fun t m s v ty P rec cl e h d k => kO3 (o3 rec h d (aopO P e h ty (.entryStore t m s v))) k)
    (fun t x ty P rec cl e h d k => kO3 (o3 rec h d (aopO P e h ty (.range t x))) k)
    (fun it b ty P rec cl e h d k => kO3 (o3 rec h d (aopO P e h ty (.next it b))) k)
    (fun it ty P rec cl e h d k => kO3 (o3 rec h d (aopO P e h ty (.entry it))) k)
    (fun x xt t ok ty P rec cl e h d k => kO3 (o3 rec h d (aopO P e h ty (.typeAssert x xt t ok))) k)
    (fun t i ty P rec cl e h d k => kO (fOpd t h.g e) fun t => fExt t i fun v => k v h d)
    (fun c ty P rec cl e h d k => fOpds c.args.toList h.g e fun args => cCallee c.callee c.argTypes.toList ty args P cl e h d k)
    (fun c ty P rec cl e h d k => kO3 (o3 rec h d (aopO P e h ty (.go c))) k)
    (fun c ty P rec cl e h d k => kO3 (o3 rec h d (aopO P e h ty (.defer c))) k)
    (fun x ty P rec cl e h d k => kO3 (o3 rec h d (aopO P e h ty (.panic x))) k)
    (fun ch x ty P rec cl e h d k => kO3 (o3 rec h d (aopO P e h ty (.send ch x))) k)
    (fun ct ch ok ty P rec cl e h d k => kO3 (o3 rec h d (aopO P e h ty (.recv ct ch ok))) k)
    (fun cs b ty P rec cl e h d k => kO3 (o3 rec h d (aopO P e h ty (.select cs b))) k)

section
variable {P : Program} {rec : Req → Out} {rc : Rq → Out}
/-- What holds of the two. -/
structure Agrees (rec : Req → Out) (rc : Rq → Out) : Prop where
  code : ∀ c e h d r k, rc (.code c e h d r k) = appC (rec (.code c e h d r)) k
  call : ∀ f a h k, rc (.call f a h k) = appR (rec (.call f a h)) k
  nr : ∀ c e h d r v h', rec (.code c e h d r) ≠ .ret v h'

theorem cOp_eq (H : Agrees rec rc) (op : Op) (ty : TypeId) (e : Env) (h : Hp) (d : List AD) (k : KV) : cOp op ty P rec (fun f a h k => rc (.call f a h k)) e h d k = fOp op ty P rec e h d k := by
  cases op <;> try rfl
  rename_i c
  show (fOpds c.args.toList h.g e fun args => cCallee c.callee c.argTypes.toList ty args P (fun f a h k => rc (.call f a h k)) e h d k) = (fOpds c.args.toList h.g e fun args => fCallee c.callee c.argTypes.toList ty args P rec e h d k)
  congr 1
  funext args
  cases c.callee <;> try rfl
  rename_i f
  show (kO (fOpd f h.g e) fun f => rc (.call f args h fun v h => k v h d)) = (kO (fOpd f h.g e) fun f => kRet (rec (.call f args h)) d k)
  congr 1
  funext f
  rw [H.call, kRet_eq]

noncomputable def cOps (P : Program) (rec : Req → Out) (cl : CL) (ops : List Oper) (l : List Oper) : Env → Hp → List AD → KC → Out :=
  List.rec (motive := fun _ => Env → Hp → List AD → KC → Out) (fun e h d k => k .normal e h d)
    (fun o _ ih e h d k => fWant o.guard ops e o (cOp o.op o.type P rec cl e h d fun v h d => ih (fPut o.dst e v) h d k) (ih (fPut o.dst e (.tup [])) h d k)) l
theorem fWant_app (g : Option (Nat × Bool)) (ops : List Oper) (e : Env) (o : Oper) (x y : Out) (f : Out → Out) (hf : f .no = .no) : f (fWant g ops e o x y) = fWant g ops e o (f x) (f y) := by
  cases g with
  | none => rfl
  | some jw =>
    show f (fSel (wantA ops e o) x y) = fSel (wantA ops e o) (f x) (f y)
    cases wantA ops e o with
    | none => exact hf
    | some b => cases b <;> rfl
theorem kO3_app (o : O3) (k : KV) (f : Out → Out) (hf : f .no = .no) : f (kO3 o k) = kO3 o fun v h d => f (k v h d) := by
  cases o with
  | is v h d => rfl
  | no => exact hf
theorem cOps_eq (H : Agrees rec rc) (ops : List Oper) : ∀ (l : List Oper) (e : Env) (h : Hp) (d : List AD) (k : KC), cOps P rec (fun f a h k => rc (.call f a h k)) ops l e h d k = appC (fOps P rec ops l e h d) k
  | [], _, _, _, _ => rfl
  | o :: l, e, h, d, k => by
    show fWant o.guard ops e o (cOp o.op o.type P rec (fun f a h k => rc (.call f a h k)) e h d fun v h d => cOps P rec (fun f a h k => rc (.call f a h k)) ops l (fPut o.dst e v) h d k) (cOps P rec (fun f a h k => rc (.call f a h k)) ops l (fPut o.dst e (.tup [])) h d k) =
      appC (fWant o.guard ops e o (fOp o.op o.type P rec e h d fun v h d => fOps P rec ops l (fPut o.dst e v) h d) (fOps P rec ops l (fPut o.dst e (.tup [])) h d)) k
    rw [fWant_app o.guard ops e o _ _ (fun x => appC x k) rfl, cOp_eq H, fOp_eq, fOp_eq, kO3_app _ _ (fun x => appC x k) rfl, cOps_eq H ops l]
    congr 1
    congr 1
    funext v h d
    exact cOps_eq H ops l _ _ _ _

/-! Drawn regions. -/
noncomputable def cDK (P : Program) (e : Env) (p : PE) (W : List Watch) (ih : Env → Hp → List AD → List Watch → KC → Out) (k : KC) (v : AV) (h : Hp) (d : List AD) : Out :=
  Bool.rec (motive := fun _ => Out) (Bool.rec (motive := fun _ => Out) (Option.rec (motive := fun _ => Out) .no (fun W => ih (fPut p.o.dst e v) h d W k) (watchOk P h p.b W)) (ih (fPut p.o.dst e v) h d ((p.i, e, p.o, v) :: W) k) (Nat.beq p.c 1)) (ih (fPut p.o.dst e v) h d W k) (Nat.beq p.c 0)
noncomputable def cD (P : Program) (rec : Req → Out) (cl : CL) (ops : List Oper) (l : List PE) : Env → Hp → List AD → List Watch → KC → Out :=
  List.rec (motive := fun _ => Env → Hp → List AD → List Watch → KC → Out) (fun e h d _ k => k .normal e h d)
    (fun p _ ih e h d W k => fWant p.o.guard ops e p.o (cOp p.o.op p.o.type P rec cl e (Bool.rec (motive := fun _ => Hp) h h.bump (Nat.beq p.c 3)) d fun v h d => cDK P e p W ih k v h d) (ih (fPut p.o.dst e (.tup [])) h d W k)) l
theorem cD_eq (H : Agrees rec rc) (ops : List Oper) : ∀ (l : List PE) (e : Env) (h : Hp) (d : List AD) (W : List Watch) (k : KC), cD P rec (fun f a h k => rc (.call f a h k)) ops l e h d W k = appC (evD P rec ops l e h d W) k
  | [], _, _, _, _, _ => rfl
  | p :: l, e, h, d, W, k => by
    have ih := cD_eq H ops l
    show fWant p.o.guard ops e p.o (cOp p.o.op p.o.type P rec (fun f a h k => rc (.call f a h k)) e (Bool.rec (motive := fun _ => Hp) h h.bump (Nat.beq p.c 3)) d fun v h d => cDK P e p W (cD P rec (fun f a h k => rc (.call f a h k)) ops l) k v h d) (cD P rec (fun f a h k => rc (.call f a h k)) ops l (fPut p.o.dst e (.tup [])) h d W k) =
      appC (evDOp P rec e h d W p (evD P rec ops l) (wantA ops e p.o)) k
    rw [fWant_eq, cOp_eq H, fOp_eq]
    cases wantA ops e p.o with
    | none => rfl
    | some b =>
      cases b with
      | false =>
        show cD P rec (fun f a h k => rc (.call f a h k)) ops l (fPut p.o.dst e (.tup [])) h d W k = appC (evD P rec ops l (Env.put e p.o.dst (.tup [])) h d W) k
        rw [ih, fPut_eq]
      | true =>
        have hk : ∀ v h d, cDK P e p W (cD P rec (fun f a h k => rc (.call f a h k)) ops l) k v h d = appC (evDK P e p W (evD P rec ops l) (.is v h d)) k := by
          intro v h d
          unfold cDK
          show _ = appC (bif Nat.beq p.c 0 then evD P rec ops l (Env.put e p.o.dst v) h d W else bif Nat.beq p.c 1 then evD P rec ops l (Env.put e p.o.dst v) h d ((p.i, e, p.o, v) :: W) else evDW (Env.put e p.o.dst v) h d (evD P rec ops l) (watchOk P h p.b W)) k
          rw [fPut_eq]
          cases Nat.beq p.c 0 with
          | true => exact ih _ _ _ _ _
          | false =>
            cases Nat.beq p.c 1 with
            | true => exact ih _ _ _ _ _
            | false =>
              simp only [cond_false]
              cases watchOk P h p.b W with
              | none => rfl
              | some W' => exact ih _ _ _ _ _
        show kO3 (o3 rec (Bool.rec (motive := fun _ => Hp) h h.bump (Nat.beq p.c 3)) d (aopO P e (Bool.rec (motive := fun _ => Hp) h h.bump (Nat.beq p.c 3)) p.o.type p.o.op)) _ = appC (evDK P e p W (evD P rec ops l) (bif Nat.beq p.c 3 then o3 rec h.bump d (aop P e h.bump p.o) else o3 rec h d (aop P e h p.o))) k
        cases Nat.beq p.c 3 with
        | true =>
          simp only [cond_true]
          show kO3 (o3 rec h.bump d (aop P e h.bump p.o)) _ = _
          cases o3 rec h.bump d (aop P e h.bump p.o) with
          | is v h d => exact hk v h d
          | no => rfl
        | false =>
          simp only [cond_false]
          show kO3 (o3 rec h d (aop P e h p.o)) _ = _
          cases o3 rec h d (aop P e h p.o) with
          | is v h d => exact hk v h d
          | no => rfl
noncomputable def cDr (P : Program) (rec : Req → Out) (cl : CL) (ops : List Oper) (e : Env) (h : Hp) (d : List AD) (k : KC) : Option (List PE) → Out :=
  Option.rec (motive := fun _ => Out) .no (fun l => cD P rec cl ops l e h d [] k)
theorem cDr_eq (H : Agrees rec rc) (ops : List Oper) (e : Env) (h : Hp) (d : List AD) (k : KC) (o : Option (List PE)) : cDr P rec (fun f a h k => rc (.call f a h k)) ops e h d k o = appC (evDr P rec ops e h d o) k := by
  cases o with
  | none => rfl
  | some l => exact cD_eq H ops l e h d [] k

/-! Code. -/
noncomputable def cSeq (rc : Rq → Out) (b : Code) (r : Bool) (k : KC) (x : Ex) (e : Env) (h : Hp) (d : List AD) : Out :=
  Ex.rec (motive := fun _ => Out) (rc (.code b e h d r k)) (fun id => k (.exit id) e h d) (k .ret e h d) x
noncomputable def cBlock (id : Nat) (k : KC) (x : Ex) (e : Env) (h : Hp) (d : List AD) : Out :=
  Ex.rec (motive := fun _ => Out) (k .normal e h d) (fun j => Bool.rec (motive := fun _ => Out) (k (.exit j) e h d) (k .normal e h d) (Nat.beq j id)) (k .ret e h d) x
noncomputable def cCond : AV → (Rq → Out) → Code → Code → Env → Hp → List AD → Bool → KC → Out :=
  AV.rec (motive_1 := fun _ => (Rq → Out) → Code → Code → Env → Hp → List AD → Bool → KC → Out) (motive_2 := fun _ => PUnit)
    (fun c => fun rc a b e h d r k => rc (.code (Bool.rec (motive := fun _ => Code) b a c) e h d r k))
    (fun _ _ => fun _ _ _ _ _ _ _ _ => .no)
    (fun _ _ => fun _ _ _ _ _ _ _ _ => .no)
    (fun _ _ => fun _ _ _ _ _ _ _ _ => .no)
    (fun _ _ _ _ _ _ _ _ => .no)
    (fun _ _ _ _ _ => fun _ _ _ _ _ _ _ _ => .no)
    (fun _ _ _ _ _ _ _ _ => .no)
    (fun _ => fun _ _ _ _ _ _ _ _ => .no)
    (fun _ _ _ _ _ _ _ _ => .no)
    (fun _ _ _ _ _ => fun _ _ _ _ _ _ _ _ => .no)
    (fun _ _ _ _ _ _ _ _ => .no)
    (fun _ _ _ => fun _ _ _ _ _ _ _ _ => .no)
    (fun _ _ _ _ _ _ _ _ => .no)
    (fun _ _ => fun _ _ _ _ _ _ _ _ => .no)
    (fun _ _ => fun _ _ _ _ _ _ _ _ => .no)
    (fun _ _ _ _ => fun _ _ _ _ _ _ _ _ => .no)
    PUnit.unit (fun _ _ _ _ => PUnit.unit)
noncomputable def cRF1 (rc : Rq → Out) (e : Env) (h : Hp) (d : List AD) (ps : List Tmp) (asg body : Code) (fv : AV) (k : KC) : Out :=
  rc (.call fv [.fn (.yield h.next) [] []] (h.new (.loop 0 .normal e ps asg body)) fun _ h' => appC (evRF3 e h' d h.next (h'.get h.next)) k)
noncomputable def cRF (rc : Rq → Out) (e : Env) (h : Hp) (d : List AD) (r : Bool) (ps : List Tmp) (asg body : Code) (k : KC) (fv : AV) : Out :=
  Bool.rec (motive := fun _ => Out) (cRF1 rc e (h.new .deferred) (.mark h.next :: d) ps asg body fv k) (cRF1 rc e h d ps asg body fv k) r
noncomputable def cCode : Code → Program → (Req → Out) → (Rq → Out) → Env → Hp → List AD → Bool → KC → Out :=
  Code.rec (motive := fun _ => Program → (Req → Out) → (Rq → Out) → Env → Hp → List AD → Bool → KC → Out)
    (fun _ _ _ e h d _ k => k .normal e h d)
    (fun _ ops draw P rec rc e h d _ k => Bool.rec (motive := fun _ => Out) (cOps P rec (fun f a h k => rc (.call f a h k)) ops.toList ops.toList e h d k) (cDr P rec (fun f a h k => rc (.call f a h k)) ops.toList e h d k (planOf ops.toList)) draw)
    (fun a b _ _ _ _ rc e h d r k => rc (.code a e h d r (cSeq rc b r k)))
    (fun c a b _ _ _ _ rc e h d r k => kO (fOpd c h.g e) fun v => cCond v rc a b e h d r k)
    (fun id a _ _ _ rc e h d r k => rc (.code a e h d r (cBlock id k)))
    (fun a _ _ _ rc e h d r k => rc (.code a e h d r (cSeq rc (.loop a) r k)))
    (fun f ps asg body _ _ _ _ rc e h d r k => kO (fOpd f h.g e) fun fv => cRF rc e h d r ps.toList asg body k fv)
    (fun id _ _ _ e h d _ k => k (.exit id) e h d)
    (fun a _ _ _ rc e h d r k => rc (.code a e h d r k))
    (fun _ _ _ _ e h d _ k => k .normal e h d)
    (fun _ _ _ _ _ _ _ _ _ => .no)
    (fun _ _ _ e h d _ k => k .ret e h d)
    (fun _ _ _ _ _ _ _ _ _ => .no)
theorem cSeq_eq (H : Agrees rec rc) (b : Code) (r : Bool) (k : KC) (o : Out) (ho : ∀ v h, o ≠ .ret v h) : appC o (cSeq rc b r k) = appC (fSeq o rec b r) k := by
  cases o with
  | no => rfl
  | ret v h => exact absurd rfl (ho v h)
  | done x e h d =>
    cases x with
    | normal => exact H.code _ _ _ _ _ _
    | exit id => rfl
    | ret => rfl
theorem cBlock_eq (id : Nat) (k : KC) (o : Out) (ho : ∀ v h, o ≠ .ret v h) : appC o (cBlock id k) = appC (fBlock o id) k := by
  cases o with
  | no => rfl
  | ret v h => exact absurd rfl (ho v h)
  | done x e h d =>
    cases x with
    | normal => rfl
    | exit j =>
      show Bool.rec (motive := fun _ => Out) (k (.exit j) e h d) (k .normal e h d) (Nat.beq j id) = k (Bool.rec (motive := fun _ => Ex) (.exit j) .normal (Nat.beq j id)) e h d
      cases Nat.beq j id <;> rfl
    | ret => rfl
theorem cRF1_eq (H : Agrees rec rc) (e : Env) (h : Hp) (d : List AD) (ps : List Tmp) (asg body : Code) (fv : AV) (k : KC) : cRF1 rc e h d ps asg body fv k = appC (evRF1 rec e h d ps asg body fv) k := by
  unfold cRF1 evRF1
  rw [H.call]
  cases rec (.call fv [.fn (.yield h.next) [] []] (h.new (.loop 0 .normal e ps asg body))) <;> rfl
theorem cCode_eq (H : Agrees rec rc) (c : Code) (e : Env) (h : Hp) (d : List AD) (r : Bool) (k : KC) : cCode c P rec rc e h d r k = appC (fCode c P rec e h d r) k := by
  cases c <;> try rfl
  case region id ops draw =>
    cases draw with
    | false => exact cOps_eq H _ _ e h d k
    | true => exact cDr_eq H _ e h d k _
  case seq a b =>
    show rc (.code a e h d r (cSeq rc b r k)) = appC (fSeq (rec (.code a e h d r)) rec b r) k
    rw [H.code]
    exact cSeq_eq H b r k _ (H.nr a e h d r)
  case loop a =>
    show rc (.code a e h d r (cSeq rc (.loop a) r k)) = appC (fSeq (rec (.code a e h d r)) rec (.loop a) r) k
    rw [H.code]
    exact cSeq_eq H (.loop a) r k _ (H.nr a e h d r)
  case block id a =>
    show rc (.code a e h d r (cBlock id k)) = appC (fBlock (rec (.code a e h d r)) id) k
    rw [H.code]
    exact cBlock_eq id k _ (H.nr a e h d r)
  case scope a => exact H.code _ _ _ _ _ _
  case cond c a b =>
    show (kO (fOpd c h.g e) fun v => cCond v rc a b e h d r k) = appC (kO (fOpd c h.g e) fun v => fCond v rec a b e h d r) k
    cases fOpd c h.g e with
    | none => rfl
    | some v =>
      show cCond v rc a b e h d r k = appC (fCond v rec a b e h d r) k
      cases v <;> try rfl
      exact H.code _ _ _ _ _ _
  case rangeFunc f ps asg body =>
    show (kO (fOpd f h.g e) fun fv => cRF rc e h d r ps.toList asg body k fv) = appC (evRF rec e h d r ps.toList asg body (opd h.g e f)) k
    rw [fOpd_eq]
    cases opd h.g e f with
    | none => rfl
    | some fv =>
      show cRF rc e h d r ps.toList asg body k fv = appC (bif r then evRF1 rec e h d ps.toList asg body fv else evRF1 rec e (h.new .deferred) (.mark h.next :: d) ps.toList asg body fv) k
      cases r with
      | true => exact cRF1_eq H ..
      | false => exact cRF1_eq H ..

/-! Calls. -/
noncomputable def cRes (h : Hp) (k : KR) : List AV → Out :=
  List.rec (motive := fun _ => Out) (k (.tup []) h) (fun v l _ => List.rec (motive := fun _ => Out) (k v h) (fun b l2 _ => k (.tup (v :: b :: l2)) h) l)
noncomputable def cEnd2 : List AD → Func → Program → (Req → Out) → Env → Hp → KR → Out :=
  List.rec (motive := fun _ => Func → Program → (Req → Out) → Env → Hp → KR → Out) (fun fn P _ e h k => fResA fn.results.toList P e h fun l => cRes h k l) (fun a d _ fn P rec e h k => appR (evEnd2 P fn e (runD rec (a :: d) h)) k)
noncomputable def cEnd (fn : Func) (P : Program) (rec : Req → Out) (k : KR) (x : Ex) (e : Env) (h : Hp) (d : List AD) : Out :=
  Ex.rec (motive := fun _ => Out) (cEnd2 d fn P rec e h k) (fun _ => .no) (cEnd2 d fn P rec e h k) x
theorem kL'_app (o : Option (List AV)) (k : List AV → Out) (f : Out → Out) (hf : f .no = .no) : f (kL' o k) = kL' o fun l => f (k l) := by
  cases o with
  | none => exact hf
  | some l => rfl
theorem cRes_eq (h : Hp) (k : KR) (l : List AV) : cRes h k l = appR (fRes h l) k := by
  match l with
  | [] => rfl
  | [v] => rfl
  | v :: b :: l => rfl
theorem cEnd2_eq (d : List AD) (fn : Func) (e : Env) (h : Hp) (k : KR) : cEnd2 d fn P rec e h k = appR (fEnd2 d fn P rec e h) k := by
  cases d with
  | cons a d => rfl
  | nil =>
    show (fResA fn.results.toList P e h fun l => cRes h k l) = appR (fResA fn.results.toList P e h fun l => fRes h l) k
    rw [fResA_eq, fResA_eq, kL'_app _ _ (fun x => appR x k) rfl]
    congr 1
    funext l
    exact cRes_eq h k l
theorem cEnd_eq (fn : Func) (k : KR) (o : Out) (ho : ∀ v h, o ≠ .ret v h) : appC o (cEnd fn P rec k) = appR (fEnd o fn P rec) k := by
  cases o with
  | no => rfl
  | ret v h => exact absurd rfl (ho v h)
  | done x e h d =>
    cases x with
    | normal => exact cEnd2_eq ..
    | exit id => rfl
    | ret => exact cEnd2_eq ..
noncomputable def cFunc2 : Option Code → Func → Program → (Req → Out) → (Rq → Out) → List AV → Hp → KR → Out :=
  Option.rec (motive := fun _ => Func → Program → (Req → Out) → (Rq → Out) → List AV → Hp → KR → Out) (fun fn P _ _ args h k => appR (evExt (externA P fn h args)) k) (fun c fn P rec rc args h k => rc (.code c (env0 args 0 .lf) h [] false (cEnd fn P rec k)))
noncomputable def cFunc : Option Func → Program → (Req → Out) → (Rq → Out) → List AV → Hp → KR → Out :=
  Option.rec (motive := fun _ => Program → (Req → Out) → (Rq → Out) → List AV → Hp → KR → Out) (fun _ _ _ _ _ _ => .no) (fun fn P rec rc args h k => cFunc2 fn.body fn P rec rc args h k)
theorem cFunc_eq (H : Agrees rec rc) (o : Option Func) (args : List AV) (h : Hp) (k : KR) : cFunc o P rec rc args h k = appR (fFunc o P rec args h) k := by
  cases o with
  | none => rfl
  | some fn =>
    show cFunc2 fn.body fn P rec rc args h k = appR (fFunc2 fn.body fn P rec args h) k
    cases fn.body with
    | none => rfl
    | some c =>
      show rc (.code c (env0 args 0 .lf) h [] false (cEnd fn P rec k)) = appR (fEnd (rec (.code c (env0 args 0 .lf) h [] false)) fn P rec) k
      rw [H.code]
      exact cEnd_eq fn k _ (H.nr _ _ _ _ _)
noncomputable def cLook2 (args : List AV) (o : Out) (h : Hp) (k : KR) (l : List (List AV × AV)) : Out :=
  List.rec (motive := fun _ => Out) o (fun x _ ih => Bool.rec (motive := fun _ => Out) ih (k x.2 h) (fKey x.1 args)) l
noncomputable def cLook (g : Nat) (args : List AV) (o : Out) (h : Hp) (k : KR) (tb : Tb) : Out :=
  List.rec (motive := fun _ => Out) o (fun x _ ih => Bool.rec (motive := fun _ => Out) ih (cLook2 args o h k x.2) (Nat.beq x.1 g)) tb
theorem cLook2_eq (args : List AV) (o : Out) (h : Hp) (k : KR) : ∀ (l : List (List AV × AV)), cLook2 args (appR o k) h k l = appR (fLook2 args o h l) k
  | [] => rfl
  | x :: l => by
    show Bool.rec (motive := fun _ => Out) (cLook2 args (appR o k) h k l) (k x.2 h) (fKey x.1 args) = appR (Bool.rec (motive := fun _ => Out) (fLook2 args o h l) (.ret x.2 h) (fKey x.1 args)) k
    rw [cLook2_eq args o h k l]
    cases fKey x.1 args <;> rfl
theorem cLook_eq (g : Nat) (args : List AV) (o : Out) (h : Hp) (k : KR) : ∀ (tb : Tb), cLook g args (appR o k) h k tb = appR (fLook g args o h tb) k
  | [] => rfl
  | x :: l => by
    show Bool.rec (motive := fun _ => Out) (cLook g args (appR o k) h k l) (cLook2 args (appR o k) h k x.2) (Nat.beq x.1 g) = appR (Bool.rec (motive := fun _ => Out) (fLook g args o h l) (fLook2 args o h x.2) (Nat.beq x.1 g)) k
    rw [cLook_eq g args o h k l, cLook2_eq]
    cases Nat.beq x.1 g <;> rfl
/-- A round of a loop. -/
noncomputable def cY4 (l : Nat) (k : KR) (x : Ex) (_ : Env) (h : Hp) (d : List AD) : Out :=
  List.rec (motive := fun _ => Out) (appR (evY5 l x h (h.get l)) k) (fun _ _ _ => .no) d
noncomputable def cY3 (rc : Rq → Out) (l : Nat) (e : Env) (h : Hp) (body : Code) (k : KR) : AO → Out :=
  AO.rec (motive := fun _ => Out) (fun _ _ _ _ => .no) .no (fun _ _ => .no) (fun _ _ _ => .no)
    (fun st pend en ps asg bd => Nat.rec (motive := fun _ => Out) (rc (.code body e (h.set l (.loop 1 pend en ps asg bd)) [] true (cY4 l k))) (fun _ _ => .no) st) .no
noncomputable def cY2 (rc : Rq → Out) (l : Nat) (body : Code) (k : KR) (x : Ex) (e : Env) (h : Hp) (d : List AD) : Out :=
  Ex.rec (motive := fun _ => Out) (List.rec (motive := fun _ => Out) (kAO (h.get l) (cY3 rc l e h body k)) (fun _ _ _ => .no) d) (fun _ => .no) .no x
noncomputable def cY (rc : Rq → Out) (l : Nat) (args : List AV) (h : Hp) (k : KR) : AO → Out :=
  AO.rec (motive := fun _ => Out) (fun _ _ _ _ => .no) .no (fun _ _ => .no) (fun _ _ _ => .no)
    (fun _ _ en ps asg body => Option.rec (motive := fun _ => Out) .no (fun e => rc (.code asg e h [] true (cY2 rc l body k))) (putAll ps args en)) .no
theorem cY3_eq (H : Agrees rec rc) (l : Nat) (e : Env) (h : Hp) (body : Code) (k : KR) (o : Option AO) : kAO o (cY3 rc l e h body k) = appR (evY3 rec l e h body o) k := by
  cases o with
  | none => rfl
  | some o =>
    cases o <;> try rfl
    rename_i st pend en ps asg bd
    cases st with
    | succ n => rfl
    | zero =>
      show rc (.code body e (h.set l (.loop 1 pend en ps asg bd)) [] true (cY4 l k)) = appR (evY4 l (rec (.code body e (h.set l (.loop 1 pend en ps asg bd)) [] true))) k
      rw [H.code]
      cases ho : rec (.code body e (h.set l (.loop 1 pend en ps asg bd)) [] true) with
      | no => rfl
      | ret v h' => exact absurd ho (H.nr _ _ _ _ _ v h')
      | done x e h d => cases d <;> rfl
theorem cY_eq (H : Agrees rec rc) (l : Nat) (args : List AV) (h : Hp) (k : KR) (o : Option AO) : kAO o (cY rc l args h k) = appR (evY rec l args h o) k := by
  cases o with
  | none => rfl
  | some o =>
    cases o <;> try rfl
    rename_i st pend en ps asg body
    show Option.rec (motive := fun _ => Out) .no (fun e => rc (.code asg e h [] true (cY2 rc l body k))) (putAll ps args en) = appR (evY1 rec l h asg body (putAll ps args en)) k
    cases putAll ps args en with
    | none => rfl
    | some e =>
      show rc (.code asg e h [] true (cY2 rc l body k)) = appR (evY2 rec l body (rec (.code asg e h [] true))) k
      rw [H.code]
      cases ho : rec (.code asg e h [] true) with
      | no => rfl
      | ret v h' => exact absurd ho (H.nr _ _ _ _ _ v h')
      | done x e h d =>
        cases x with
        | exit id => rfl
        | ret => rfl
        | normal =>
          cases d with
          | cons a d => rfl
          | nil => exact cY3_eq H l e h body k _
noncomputable def cFn : Fn → List AV → List AV → Program → Tb → (Req → Out) → (Rq → Out) → List AV → Hp → KR → Out :=
  Fn.rec (motive := fun _ => List AV → List AV → Program → Tb → (Req → Out) → (Rq → Out) → List AV → Hp → KR → Out)
    (fun g a c P tb rec rc args h k => List.rec (motive := fun _ => Out)
      (List.rec (motive := fun _ => Out) (cLook g args (cFunc P.funcs[g]? P rec rc args h k) h k tb) (fun x c _ => cFunc P.funcs[g]? P rec rc (fApp args (x :: c)) h k) c)
      (fun x a _ => cFunc P.funcs[g]? P rec rc (fApp (x :: a) (fApp args c)) h k) a)
    (fun _ _ _ _ _ _ _ _ _ _ => .no) (fun _ _ _ _ _ _ _ _ _ _ _ => .no) (fun _ _ _ _ _ _ _ _ _ _ _ _ _ => .no)
    (fun l a _ _ _ _ rc args h k => List.rec (motive := fun _ => Out) (kAO (h.get l) (cY rc l args h k)) (fun _ _ _ => .no) a)
noncomputable def cCall : AV → Program → Tb → (Req → Out) → (Rq → Out) → List AV → Hp → KR → Out :=
  AV.rec (motive_1 := fun _ => Program → Tb → (Req → Out) → (Rq → Out) → List AV → Hp → KR → Out) (motive_2 := fun _ => PUnit)
    (fun _ => fun _ _ _ _ _ _ _ => .no)
    (fun _ _ => fun _ _ _ _ _ _ _ => .no)
    (fun _ _ => fun _ _ _ _ _ _ _ => .no)
    (fun _ _ => fun _ _ _ _ _ _ _ => .no)
    (fun _ _ _ _ _ _ _ => .no)
    (fun _ _ _ _ _ => fun _ _ _ _ _ _ _ => .no)
    (fun _ _ _ _ _ _ _ => .no)
    (fun _ => fun _ _ _ _ _ _ _ => .no)
    (fun _ _ _ _ _ _ _ => .no)
    (fun f a c _ _ => fun P tb rec rc args h k => cFn f a c P tb rec rc args h k)
    (fun _ _ _ _ _ _ _ => .no)
    (fun _ _ _ => fun _ _ _ _ _ _ _ => .no)
    (fun _ _ _ _ _ _ _ => .no)
    (fun _ _ => fun _ _ _ _ _ _ _ => .no)
    (fun _ _ => fun _ _ _ _ _ _ _ => .no)
    (fun _ _ _ _ => fun _ _ _ _ _ _ _ => .no)
    PUnit.unit (fun _ _ _ _ => PUnit.unit)
theorem cCall_eq (H : Agrees rec rc) (f : AV) (tb : Tb) (args : List AV) (h : Hp) (k : KR) : cCall f P tb rec rc args h k = appR (fCallF f P tb rec args h) k := by
  cases f <;> try rfl
  rename_i fn a c
  cases fn with
  | method l => rfl
  | methodOf l m => rfl
  | via a b c d => rfl
  | yield l =>
    cases a with
    | cons x a => rfl
    | nil => exact cY_eq H l args h k _
  | func g =>
    cases a with
    | cons x a => exact cFunc_eq H ..
    | nil =>
      cases c with
      | cons x c => exact cFunc_eq H ..
      | nil =>
        show cLook g args (cFunc P.funcs[g]? P rec rc args h k) h k tb = appR (fLook g args (fFunc P.funcs[g]? P rec args h) h tb) k
        rw [cFunc_eq H, cLook_eq]

theorem evD_nr (hrec : True) (ops : List Oper) : ∀ (l : List PE) (e : Env) (h : Hp) (d : List AD) (W : List Watch) (v : AV) (h' : Hp), evD P rec ops l e h d W ≠ .ret v h'
  | [], e, h, d, W, v, h', he => by cases he
  | p :: l, e, h, d, W, v, h', he => by
    have ih := evD_nr hrec ops l
    change evDOp P rec e h d W p (evD P rec ops l) (wantA ops e p.o) = _ at he
    cases hw : wantA ops e p.o with
    | none => rw [hw] at he; cases he
    | some b =>
      rw [hw] at he
      cases b with
      | false => exact ih _ _ _ _ _ _ he
      | true =>
        simp only [evDOp] at he
        generalize (bif Nat.beq p.c 3 then o3 rec h.bump d (aop P e h.bump p.o) else o3 rec h d (aop P e h p.o)) = q at he
        cases q with
        | no => cases he
        | is u h1 d1 =>
          simp only [evDK] at he
          cases h0 : Nat.beq p.c 0 with
          | true => rw [h0] at he; exact ih _ _ _ _ _ _ he
          | false =>
            rw [h0] at he
            simp only [cond_false] at he
            cases h1 : Nat.beq p.c 1 with
            | true => rw [h1] at he; exact ih _ _ _ _ _ _ he
            | false =>
              rw [h1] at he
              simp only [cond_false] at he
              cases hwo : watchOk P _ p.b W with
              | none => rw [hwo] at he; cases he
              | some W' => rw [hwo] at he; exact ih _ _ _ _ _ _ he
theorem evOps_nr (ops : List Oper) : ∀ (l : List Oper) (e : Env) (h : Hp) (d : List AD) (v : AV) (h' : Hp), evOps P rec ops l e h d ≠ .ret v h'
  | [], e, h, d, v, h', he => by cases he
  | o :: l, e, h, d, v, h', he => by
    change evOp P rec e h d o (evOps P rec ops l) (wantA ops e o) = _ at he
    cases hw : wantA ops e o with
    | none => rw [hw] at he; cases he
    | some b =>
      rw [hw] at he
      cases b with
      | false => exact evOps_nr ops l _ _ _ _ _ he
      | true =>
        simp only [evOp] at he
        cases ho : o3 rec h d (aop P e h o) with
        | no => rw [ho] at he; cases he
        | is u h1 d1 => rw [ho] at he; exact evOps_nr ops l _ _ _ _ _ he
theorem evCode_nr (hr : ∀ c e h d r v h', rec (.code c e h d r) ≠ .ret v h') (c : Code) (e : Env) (h : Hp) (d : List AD) (r : Bool) (v : AV) (h' : Hp) : evCode P rec e h d r c ≠ .ret v h' := by
  intro he
  have seq : ∀ (o : Out) (b : Code), (∀ v h', o ≠ .ret v h') → evSeq rec b r o ≠ .ret v h' := by
    intro o b ho hs
    cases o with
    | no => cases hs
    | ret u h1 => exact ho _ _ rfl
    | done x e h d =>
      cases x with
      | normal => exact hr _ _ _ _ _ _ _ hs
      | exit id => cases hs
      | ret => cases hs
  have rf : ∀ (e : Env) (h : Hp) (d : List AD) (ps : List Tmp) (asg body : Code) (fv : AV), evRF1 rec e h d ps asg body fv ≠ .ret v h' := by
    intro e h d ps asg body fv hs
    unfold evRF1 at hs
    cases hq : rec (.call fv [.fn (.yield h.next) [] []] (h.new (.loop 0 .normal e ps asg body))) with
    | no => rw [hq] at hs; cases hs
    | done x e h d => rw [hq] at hs; cases hs
    | ret u h1 =>
      rw [hq] at hs
      simp only [evRF2] at hs
      unfold evRF3 at hs
      split at hs
      · rename_i st _ _ _ _ _ _
        cases hb : Nat.beq st 1 with
        | true => rw [hb] at hs; cases hs
        | false => rw [hb] at hs; cases hs
      · cases hs
  cases c <;> simp only [evCode] at he <;> try (cases he; done)
  case region id ops draw =>
    cases draw with
    | false => exact evOps_nr _ _ _ _ _ _ _ he
    | true =>
      simp only [cond_true] at he
      cases hp : planOf ops.toList with
      | none => rw [hp] at he; cases he
      | some l => rw [hp] at he; exact evD_nr trivial _ _ _ _ _ _ _ _ he
  case seq a b => exact seq _ _ (hr _ _ _ _ _) he
  case loop a => exact seq _ _ (hr _ _ _ _ _) he
  case scope a => exact hr _ _ _ _ _ _ _ he
  case cond f a b =>
    unfold evCond at he
    split at he
    · exact hr _ _ _ _ _ _ _ he
    · cases he
  case block id a =>
    unfold evBlock at he
    split at he
    · cases he
    · exact hr _ _ _ _ _ _ _ he
  case rangeFunc f ps asg body =>
    unfold evRF at he
    split at he
    · cases r with
      | true => exact rf _ _ _ _ _ _ _ he
      | false => exact rf _ _ _ _ _ _ _ he
    · cases he
end

noncomputable def cStep (P : Program) (tb : Tb) (rec : Req → Out) (rc : Rq → Out) : Rq → Out :=
  Rq.rec (motive := fun _ => Out) (fun c e h d r k => cCode c P rec rc e h d r k) (fun f args h k => cCall f P tb rec rc args h k)
noncomputable def evC (P : Program) (tb : Tb) (n : Nat) : Rq → Out :=
  Nat.rec (motive := fun _ => Rq → Out) (fun _ => .no) (fun n ih => cStep P tb (evF P tb n) ih) n
theorem evF_nr (P : Program) (tb : Tb) : ∀ n c e h d r v h', evF P tb n (.code c e h d r) ≠ .ret v h'
  | 0, _, _, _, _, _, _, _, he => by cases he
  | n + 1, c, e, h, d, r, v, h', he => by
    change fCode c P (evF P tb n) e h d r = _ at he
    rw [fCode_eq] at he
    exact evCode_nr (evF_nr P tb n) _ _ _ _ _ _ _ he
theorem evC_ok (P : Program) (tb : Tb) : ∀ n, Agrees (evF P tb n) (evC P tb n)
  | 0 => ⟨fun _ _ _ _ _ _ => rfl, fun _ _ _ _ => rfl, evF_nr P tb 0⟩
  | n + 1 => ⟨fun c e h d r k => cCode_eq (evC_ok P tb n) c e h d r k, fun f a h k => cCall_eq (evC_ok P tb n) f tb a h k, evF_nr P tb (n + 1)⟩

/-- Nothing. -/
def hp0 : Hp := ⟨.lf, 0, 0⟩
/-- Does a call answer this? (It is, if what it comes to is 'yes' below.) -/
noncomputable def evAsk (P : Program) (tb : Tb) (n : Nat) (f : AV) (args : List AV) (h : Hp) (v : AV) : Out := evC P tb n (.call f args h fun u _ => .ret (.bool (eqAV u v)) hp0)
def yes : Out := .ret (.bool true) hp0
theorem ask_inv {P : Program} {tb : Tb} {n : Nat} {f : AV} {args : List AV} {h : Hp} {v : AV} (he : evAsk P tb n f args h v = yes) : ∃ h', evM P tb n (.call f args h) = .ret v h' := by
  unfold evAsk at he
  rw [(evC_ok P tb n).call, evF_eq] at he
  cases hq : evM P tb n (.call f args h) with
  | no => rw [hq] at he; cases he
  | done x e1 h1 d1 => rw [hq] at he; cases he
  | ret u h1 =>
    rw [hq] at he
    change Out.ret (.bool (eqAV u v)) hp0 = .ret (.bool true) hp0 at he
    injection he with q _
    injection q with q
    exact ⟨h1, by rw [eqAV_eq q]⟩

theorem pure_ask {hG : Hp} (hr : RoHp hG) {P : Program} {tb : Tb} (hP : ProgOk (laidOf hG) P) (ht : TbOk (laidOf hG) P tb) {g : Nat} {args : List AV} {v : AV} (n : Nat) (ha : flatL args = true) (hv : flatA v = true) (he : evAsk P tb n (.fn (.func g) [] []) args hG v = yes) : Pure (laidOf hG) P g args v := by
  obtain ⟨h', e⟩ := ask_inv he
  exact pure_of hr ha hv ((evM_ok hP ht n).2 _ _ _ _ _ e)

end Go.Ev
