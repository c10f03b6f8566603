/- The evaluator again, its arms closed: for the kernel. -/
import Derived.Test.YtibpgelajmoefaaGreatDoorEv34
namespace Go.Ev

abbrev KV := AV → Hp → List AD → Out
noncomputable def kO : Option AV → (AV → Out) → Out := Option.rec (motive := fun _ => (AV → Out) → Out) (fun _ => .no) (fun v k => k v)
noncomputable def kL' : Option (List AV) → (List AV → Out) → Out := Option.rec (motive := fun _ => (List AV → Out) → Out) (fun _ => .no) (fun v k => k v)
noncomputable def kN : Option Nat → (Nat → Out) → Out := Option.rec (motive := fun _ => (Nat → Out) → Out) (fun _ => .no) (fun v k => k v)
noncomputable def kAO : Option AO → (AO → Out) → Out := Option.rec (motive := fun _ => (AO → Out) → Out) (fun _ => .no) (fun v k => k v)
noncomputable def kB : Bool → Out → Out := Bool.rec (motive := fun _ => Out → Out) (fun _ => .no) (fun o => o)
noncomputable def kO3 : O3 → KV → Out := O3.rec (motive := fun _ => KV → Out) (fun v h d k => k v h d) (fun _ => .no)
noncomputable def kOR : OR → List AD → KV → Out := OR.rec (motive := fun _ => List AD → KV → Out) (fun v h d k => k v h d) (fun h d k => k (.tup []) h d) (fun _ _ _ _ => .no) (fun _ _ _ _ => .no) (fun _ _ => .no)
noncomputable def kRet : Out → List AD → KV → Out := Out.rec (motive := fun _ => List AD → KV → Out) (fun _ _ _ _ _ _ => .no) (fun v h d k => k v h d) (fun _ _ => .no)

noncomputable def fOpd : Operand → Nat → Env → Option AV :=
  Operand.rec (motive := fun _ => Nat → Env → Option AV) (fun t _ e => getF 11 e t) (fun v _ _ => cv v) (fun g N _ => bif Nat.blt g N then some (.ptr g 0) else none) (fun f _ _ => some (.fn (.func f) [] []))
theorem fOpd_eq (x : Operand) (N : Nat) (e : Env) : fOpd x N e = opd N e x := by cases x <;> rfl
noncomputable def fPut : Option Tmp → Env → AV → Env := Option.rec (motive := fun _ => Env → AV → Env) (fun e _ => e) (fun d e v => setF 11 e d v)
theorem fPut_eq (d : Option Tmp) (e : Env) (v : AV) : fPut d e v = Env.put e d v := by cases d <;> rfl

noncomputable def fCells : AV → Option (List AV) :=
  AV.rec (motive_1 := fun _ => Option (List AV)) (motive_2 := fun _ => PUnit)
    (fun b => some [.bool b])
    (fun k n => some [.int k n])
    (fun n v => some [.str n v])
    (fun b o => some [.ptr b o])
    (some [.nilp])
    (fun b o n e c => some [.sl b o n e c])
    (some [.nils])
    (fun b => some [.map b])
    (some [.nilm])
    (fun f a c _ _ => some [.fn f a c])
    (some [.nilf])
    (fun t v _ => some [.iface t v])
    (some [.nili])
    (fun l _ => some l)
    (fun _ _ => none)
    (fun k m r b => some [.cls k m r b])
    PUnit.unit (fun _ _ _ _ => PUnit.unit)
theorem fCells_eq (v : AV) : fCells v = v.cells := by cases v <;> rfl

noncomputable def fPick : AV → Option AV → Option AV → (AV → Out) → Out :=
  AV.rec (motive_1 := fun _ => Option AV → Option AV → (AV → Out) → Out) (motive_2 := fun _ => PUnit)
    (fun c => fun a b k => kO (Bool.rec (motive := fun _ => Option AV) b a c) k)
    (fun _ _ => fun _ _ _ => .no)
    (fun _ _ => fun _ _ _ => .no)
    (fun _ _ => fun _ _ _ => .no)
    (fun _ _ _ => .no)
    (fun _ _ _ _ _ => fun _ _ _ => .no)
    (fun _ _ _ => .no)
    (fun _ => fun _ _ _ => .no)
    (fun _ _ _ => .no)
    (fun _ _ _ _ _ => fun _ _ _ => .no)
    (fun _ _ _ => .no)
    (fun _ _ _ => fun _ _ _ => .no)
    (fun _ _ _ => .no)
    (fun _ _ => fun _ _ _ => .no)
    (fun _ _ => fun _ _ _ => .no)
    (fun _ _ _ _ => fun _ _ _ => .no)
    PUnit.unit (fun _ _ _ _ => PUnit.unit)
/-! Rows of cells. -/
noncomputable def fDrop {α : Type} : Nat → List α → List α := Nat.rec (motive := fun _ => List α → List α) (fun l => l) (fun _ ih => List.rec (motive := fun _ => List α) [] (fun _ t _ => ih t))
noncomputable def fTake {α : Type} : Nat → List α → Option (List α) := Nat.rec (motive := fun _ => List α → Option (List α)) (fun _ => some []) (fun _ ih => List.rec (motive := fun _ => Option (List α)) none (fun a t _ => Option.rec (motive := fun _ => Option (List α)) none (fun r => some (a :: r)) (ih t)))
theorem fDrop_eq {α : Type} : ∀ (n : Nat) (l : List α), fDrop n l = l.drop n
  | 0, _ => rfl
  | n + 1, [] => by simp; rfl
  | n + 1, a :: l => by show fDrop n l = _; rw [fDrop_eq n l]; rfl
theorem fTake_eq {α : Type} : ∀ (n : Nat) (l : List α), fTake n l = (let r := l.take n; bif Nat.beq r.length n then some r else none)
  | 0, _ => by simp; rfl
  | n + 1, [] => by simp; rfl
  | n + 1, a :: l => by
    show Option.rec (motive := fun _ => Option (List α)) none (fun r => some (a :: r)) (fTake n l) = _
    rw [fTake_eq n l]
    have : Nat.beq ((a :: l).take (n + 1)).length (n + 1) = Nat.beq (l.take n).length n := by
      simp [Nat.beq]
    simp only [this]
    cases Nat.beq (l.take n).length n <;> simp
theorem cut_eq {α : Type} (l : List α) (o n : Nat) : cut l o n = fTake n (fDrop o l) := by rw [fTake_eq, fDrop_eq]; rfl

/-- A cell, or so many of them. -/
noncomputable def fLoadC : Option Bool → Option Nat → List AV → Nat → (AV → Out) → Out :=
  Option.rec (motive := fun _ => Option Nat → List AV → Nat → (AV → Out) → Out) (fun _ _ _ _ => .no)
    (Bool.rec (motive := fun _ => Option Nat → List AV → Nat → (AV → Out) → Out)
      (fun _ l o k => List.rec (motive := fun _ => (AV → Out) → Out) (fun _ => .no) (fun v _ _ k => k v) (fDrop o l) k)
      (Option.rec (motive := fun _ => List AV → Nat → (AV → Out) → Out) (fun _ _ _ => .no) (fun n l o k => kL' (fTake n (fDrop o l)) fun r => k (.agg r))))
theorem kO_eq {o : Option AV} {k : AV → Out} : kO o k = (match o with | some v => k v | none => .no) := by cases o <;> rfl
theorem fLoadC_eq (P : Program) (t : TypeId) (l : List AV) (o : Nat) (k : AV → Out) : fLoadC (isAggT P t) (szT P t) l o k = kO (loadC P t l o) k := by
  unfold loadC
  cases isAggT P t with
  | none => rfl
  | some b =>
    cases b with
    | false =>
      show List.rec (motive := fun _ => (AV → Out) → Out) (fun _ => .no) (fun v _ _ k => k v) (fDrop o l) k = _
      rw [fDrop_eq]
      simp only []
      cases l.drop o <;> rfl
    | true =>
      cases szT P t with
      | none => rfl
      | some n =>
        show kL' (fTake n (fDrop o l)) _ = _
        simp only [cut_eq]
        cases fTake n (fDrop o l) <;> rfl

noncomputable def fLoadO : AO → Program → TypeId → Nat → (AV → Out) → Out :=
  AO.rec (motive := fun _ => Program → TypeId → Nat → (AV → Out) → Out) (fun l _ _ _ P t o k => fLoadC (isAggT P t) (szT P t) l o k) (fun _ _ _ _ => .no) (fun _ _ _ _ _ _ => .no) (fun _ _ _ _ _ _ _ => .no) (fun _ _ _ _ _ _ _ _ _ _ => .no) (fun _ _ _ _ => .no)
noncomputable def fLoad : AV → Program → TypeId → Hp → (AV → Out) → Out :=
  AV.rec (motive_1 := fun _ => Program → TypeId → Hp → (AV → Out) → Out) (motive_2 := fun _ => PUnit)
    (fun _ => fun _ _ _ _ => .no)
    (fun _ _ => fun _ _ _ _ => .no)
    (fun _ _ => fun _ _ _ _ => .no)
    (fun b o => fun P t h k => kAO (getF 22 h.t b) fun x => fLoadO x P t o k)
    (fun _ _ _ _ => .no)
    (fun _ _ _ _ _ => fun _ _ _ _ => .no)
    (fun _ _ _ _ => .no)
    (fun _ => fun _ _ _ _ => .no)
    (fun _ _ _ _ => .no)
    (fun _ _ _ _ _ => fun _ _ _ _ => .no)
    (fun _ _ _ _ => .no)
    (fun _ _ _ => fun _ _ _ _ => .no)
    (fun _ _ _ _ => .no)
    (fun _ _ => fun _ _ _ _ => .no)
    (fun _ _ => fun _ _ _ _ => .no)
    (fun _ _ _ _ => fun _ _ _ _ => .no)
    PUnit.unit (fun _ _ _ _ => PUnit.unit)
theorem fLoad_eq (a : AV) (P : Program) (t : TypeId) (h : Hp) (k : AV → Out) : fLoad a P t h k = kO (load P t h a) k := by
  cases a <;> try rfl
  rename_i b o
  show kAO (getF 22 h.t b) (fun x => fLoadO x P t o k) = kO (match h.get b with | some (.cells l _ _ _) => loadC P t l o | _ => none) k
  cases hb : h.get b with
  | none =>
    have : getF 22 h.t b = none := hb
    rw [this]; rfl
  | some x =>
    have : getF 22 h.t b = some x := hb
    rw [this]
    cases x with
    | cells l e ro z => exact fLoadC_eq P t l o k
    | _ => rfl

/-- Cells laid over others. -/
noncomputable def fLay {α : Type} (vs : List α) : Nat → List α → List α := Nat.rec (motive := fun _ => List α → List α)
  (fun l => List.rec (motive := fun _ => List α → List α) (fun l => l) (fun v _ ih l => v :: ih (List.rec (motive := fun _ => List α) [] (fun _ t _ => t) l)) vs l)
  (fun _ ih => List.rec (motive := fun _ => List α) [] (fun a t _ => a :: ih t))
theorem fLay_zero {α : Type} : ∀ (vs l : List α), fLay vs 0 l = vs ++ l.drop vs.length
  | [], l => by simp; rfl
  | v :: vs, l => by
    show v :: fLay vs 0 (List.rec (motive := fun _ => List α) [] (fun _ t _ => t) l) = _
    rw [fLay_zero vs]
    cases l <;> simp
theorem fLay_eq {α : Type} (vs : List α) : ∀ (o : Nat) (l : List α), o ≤ l.length → fLay vs o l = l.take o ++ (vs ++ l.drop (o + vs.length))
  | 0, l, _ => by rw [fLay_zero]; simp
  | o + 1, [], h => by simp at h
  | o + 1, a :: l, h => by
    show a :: fLay vs o l = _
    rw [fLay_eq vs o l (by simpa using h), show o + 1 + vs.length = (o + vs.length) + 1 by omega]
    simp
/-- How many, as one number. -/
noncomputable def fLen {α : Type} (l : List α) : Nat → Nat := List.rec (motive := fun _ => Nat → Nat) (fun n => n) (fun _ _ ih n => ih (Nat.add n 1)) l
theorem fLen_eq {α : Type} : ∀ (l : List α) (n : Nat), fLen l n = n + l.length
  | [], n => rfl
  | a :: l, n => by
    show fLen l (n + 1) = _
    rw [fLen_eq l, List.length_cons]; omega

noncomputable def fStore2 : AO → Program → TypeId → Hp → Nat → Nat → AV → (Hp → Out) → Out :=
  AO.rec (motive := fun _ => Program → TypeId → Hp → Nat → Nat → AV → (Hp → Out) → Out)
    (fun l el ro z P t h b o v k => Bool.rec (motive := fun _ => Out)
      (kN (szT P t) fun n => kL' (fCells v) fun vs => kB (Nat.beq n (fLen vs 0) && Nat.blt 0 n) (kB (Nat.ble (Nat.add o (fLen vs 0)) (fLen l 0)) (k ⟨setF 22 h.t b (.cells (fLay vs o l) el false z), h.next, h.g⟩)))
      .no ro)
    (fun _ _ _ _ _ _ _ => .no) (fun _ _ _ _ _ _ _ _ _ => .no) (fun _ _ _ _ _ _ _ _ _ _ => .no) (fun _ _ _ _ _ _ _ _ _ _ _ _ _ => .no) (fun _ _ _ _ _ _ _ => .no)
noncomputable def fStore : AV → AV → Program → TypeId → Hp → (Hp → Out) → Out :=
  AV.rec (motive_1 := fun _ => AV → Program → TypeId → Hp → (Hp → Out) → Out) (motive_2 := fun _ => PUnit)
    (fun _ => fun _ _ _ _ _ => .no)
    (fun _ _ => fun _ _ _ _ _ => .no)
    (fun _ _ => fun _ _ _ _ _ => .no)
    (fun b o => fun v P t h k => kAO (getF 22 h.t b) fun x => fStore2 x P t h b o v k)
    (fun _ _ _ _ _ => .no)
    (fun _ _ _ _ _ => fun _ _ _ _ _ => .no)
    (fun _ _ _ _ _ => .no)
    (fun _ => fun _ _ _ _ _ => .no)
    (fun _ _ _ _ _ => .no)
    (fun _ _ _ _ _ => fun _ _ _ _ _ => .no)
    (fun _ _ _ _ _ => .no)
    (fun _ _ _ => fun _ _ _ _ _ => .no)
    (fun _ _ _ _ _ => .no)
    (fun _ _ => fun _ _ _ _ _ => .no)
    (fun _ _ => fun _ _ _ _ _ => .no)
    (fun _ _ _ _ => fun _ _ _ _ _ => .no)
    PUnit.unit (fun _ _ _ _ => PUnit.unit)
noncomputable def kH : Option Hp → (Hp → Out) → Out := Option.rec (motive := fun _ => (Hp → Out) → Out) (fun _ => .no) (fun v k => k v)
theorem fStore_eq (a v : AV) (P : Program) (t : TypeId) (h : Hp) (k : Hp → Out) : fStore a v P t h k = kH (store P t h a v) k := by
  cases a <;> try rfl
  rename_i b o
  show kAO (getF 22 h.t b) (fun x => fStore2 x P t h b o v k) = _
  unfold store
  simp only []
  cases hb : h.get b with
  | none =>
    have : getF 22 h.t b = none := hb
    rw [this]; rfl
  | some x =>
    have : getF 22 h.t b = some x := hb
    rw [this]
    cases x with
    | cells l e ro z =>
      cases ro with
      | true => rfl
      | false =>
        show kN (szT P t) _ = _
        cases szT P t with
        | none => rfl
        | some n =>
          show kL' (fCells v) _ = _
          simp only []
          rw [fCells_eq]
          cases v.cells with
          | none => rfl
          | some vs =>
            simp only []
            show kB (Nat.beq n (fLen vs 0) && Nat.blt 0 n) (kB (Nat.ble (Nat.add o (fLen vs 0)) (fLen l 0)) _) = _
            have e1 : fLen vs 0 = vs.length := by rw [fLen_eq]; simp
            have e2 : fLen l 0 = l.length := by rw [fLen_eq]; simp
            rw [e1, e2]
            cases Nat.beq n vs.length && Nat.blt 0 n with
            | false => rfl
            | true =>
              simp only [cond_true]
              unfold lay
              show kB (Nat.ble (o + vs.length) l.length) _ = _
              cases hle : Nat.ble (o + vs.length) l.length with
              | false => rfl
              | true =>
                have := Nat.le_of_ble_eq_true hle
                simp only [cond_true]
                rw [fLay_eq vs o l (by omega)]
                rfl
    | _ => rfl


/-! Places. -/
def faInfo (P : Program) (t : TypeId) (f : Nat) : Option Nat := match fieldsT P t with
  | some fs => match fs[f]? with
    | some fd => match szT P fd.type with
      | some (_ + 1) => some fd.offset
      | _ => none
    | none => none
  | none => none
noncomputable def fFA : AV → Program → TypeId → Nat → (AV → Out) → Out :=
  AV.rec (motive_1 := fun _ => Program → TypeId → Nat → (AV → Out) → Out) (motive_2 := fun _ => PUnit)
    (fun _ => fun _ _ _ _ => .no)
    (fun _ _ => fun _ _ _ _ => .no)
    (fun _ _ => fun _ _ _ _ => .no)
    (fun b o => fun P t f k => kN (faInfo P t f) fun off => k (.ptr b (Nat.add o off)))
    (fun _ _ _ _ => .no)
    (fun _ _ _ _ _ => fun _ _ _ _ => .no)
    (fun _ _ _ _ => .no)
    (fun _ => fun _ _ _ _ => .no)
    (fun _ _ _ _ => .no)
    (fun _ _ _ _ _ => fun _ _ _ _ => .no)
    (fun _ _ _ _ => .no)
    (fun _ _ _ => fun _ _ _ _ => .no)
    (fun _ _ _ _ => .no)
    (fun _ _ => fun _ _ _ _ => .no)
    (fun _ _ => fun _ _ _ _ => .no)
    (fun _ _ _ _ => fun _ _ _ _ => .no)
    PUnit.unit (fun _ _ _ _ => PUnit.unit)
theorem fFA_eq (x : AV) (P : Program) (t : TypeId) (f : Nat) (h : Hp) (d : List AD) (k : KV) : (fFA x P t f fun v => k v h d) = kOR (aFieldAddr P t f h x) d k := by
  cases x <;> try rfl
  rename_i b o
  show kN (faInfo P t f) _ = _
  unfold faInfo aFieldAddr
  simp only []
  cases fieldsT P t with
  | none => rfl
  | some fs =>
    simp only []
    unfold aFieldAddr2
    cases fs[f]? with
    | none => rfl
    | some fd =>
      simp only []
      cases szT P fd.type with
      | none => rfl
      | some n => cases n <;> rfl
/-- Of a slice's or an array's elements: their size; an array's length. -/
def iaS (P : Program) (t : TypeId) : Option Nat := match P.underlying t with
  | some (.slice elem) => szT P elem
  | _ => none
def iaA (P : Program) (t : TypeId) : Option (Nat × Nat) := match P.underlying t with
  | some (.array len elem) => match szT P elem with
    | some s => some (len, s)
    | none => none
  | _ => none
noncomputable def natO : AV → Option Nat :=
  AV.rec (motive_1 := fun _ => Option Nat) (motive_2 := fun _ => PUnit)
    (fun _ => none)
    (fun _ n => Int.rec (motive := fun _ => Option Nat) (fun n => some n) (fun _ => none) n)
    (fun _ _ => none)
    (fun _ _ => none)
    (none)
    (fun _ _ _ _ _ => none)
    (none)
    (fun _ => none)
    (none)
    (fun _ _ _ _ _ => none)
    (none)
    (fun _ _ _ => none)
    (none)
    (fun _ _ => none)
    (fun _ _ => none)
    (fun _ _ _ _ => none)
    PUnit.unit (fun _ _ _ _ => PUnit.unit)
theorem natO_eq (v : AV) : natO v = natI v := by
  cases v <;> try rfl
  rename_i k n
  cases n <;> rfl
noncomputable def fIA : AV → AV → Program → TypeId → (AV → Out) → Out :=
  AV.rec (motive_1 := fun _ => AV → Program → TypeId → (AV → Out) → Out) (motive_2 := fun _ => PUnit)
    (fun _ => fun _ _ _ _ => .no)
    (fun _ _ => fun _ _ _ _ => .no)
    (fun _ _ => fun _ _ _ _ => .no)
    (fun b o => fun i P t k => kN (natO i) fun i => Option.rec (motive := fun _ => Out) .no (fun q => kB (Nat.blt i q.1) (k (.ptr b (Nat.add o (Nat.mul i q.2))))) (iaA P t))
    (fun _ _ _ _ => .no)
    (fun b o n e _ => fun i P t k => kN (natO i) fun i => kN (iaS P t) fun s => kB (Nat.blt i n && Nat.beq s e) (k (.ptr b (Nat.add o (Nat.mul i s)))))
    (fun _ _ _ _ => .no)
    (fun _ => fun _ _ _ _ => .no)
    (fun _ _ _ _ => .no)
    (fun _ _ _ _ _ => fun _ _ _ _ => .no)
    (fun _ _ _ _ => .no)
    (fun _ _ _ => fun _ _ _ _ => .no)
    (fun _ _ _ _ => .no)
    (fun _ _ => fun _ _ _ _ => .no)
    (fun _ _ => fun _ _ _ _ => .no)
    (fun _ _ _ _ => fun _ _ _ _ => .no)
    PUnit.unit (fun _ _ _ _ => PUnit.unit)
theorem fIA_eq (x i : AV) (P : Program) (t : TypeId) (k : AV → Out) : fIA x i P t k = kO (indexAddrA P t x i) k := by
  unfold indexAddrA
  cases x with
  | sl b o n e c =>
    show kN (natO i) (fun i => kN (iaS P t) fun s => kB (Nat.blt i n && Nat.beq s e) (k (.ptr b (Nat.add o (Nat.mul i s))))) = _
    rw [natO_eq]
    cases i <;> try rfl
    rename_i kk z
    cases z with
    | negSucc z => rfl
    | ofNat z =>
      show kN (iaS P t) _ = _
      unfold iaS
      simp only []
      cases P.underlying t with
      | none => rfl
      | some u =>
        cases u <;> try rfl
        rename_i elem
        simp only []
        cases szT P elem with
        | none => rfl
        | some s =>
          show kB (Nat.blt z n && Nat.beq s e) _ = _
          simp only []
          cases (Nat.blt z n && Nat.beq s e) <;> rfl
  | ptr b o =>
    show kN (natO i) (fun i => Option.rec (motive := fun _ => Out) .no (fun q => kB (Nat.blt i q.1) (k (.ptr b (Nat.add o (Nat.mul i q.2))))) (iaA P t)) = _
    rw [natO_eq]
    cases i <;> try rfl
    rename_i kk z
    cases z with
    | negSucc z => rfl
    | ofNat z =>
      show Option.rec (motive := fun _ => Out) .no _ (iaA P t) = _
      unfold iaA
      simp only []
      cases P.underlying t with
      | none => rfl
      | some u =>
        cases u <;> try rfl
        rename_i len elem
        simp only []
        cases szT P elem with
        | none => rfl
        | some s =>
          show kB (Nat.blt z len) _ = _
          simp only []
          cases Nat.blt z len <;> rfl
  | _ =>
    show Out.no = _
    cases i <;> try rfl
    rename_i kk z
    cases z <;> try rfl
    simp only []
    cases P.underlying t with
    | none => rfl
    | some u => cases u <;> rfl


/-! Numbers. -/
noncomputable def fAddI : Int → Int → Int := Int.rec (motive := fun _ => Int → Int) (fun m => Int.rec (motive := fun _ => Int) (fun n => .ofNat (Nat.add m n)) (fun n => Int.add (.ofNat m) (.negSucc n))) (fun m n => Int.add (.negSucc m) n)
theorem fAddI_eq (a b : Int) : fAddI a b = a + b := by cases a <;> cases b <;> rfl
noncomputable def fWr : Int → IntKind → Int := Int.rec (motive := fun _ => IntKind → Int) (fun a k => Bool.rec (motive := fun _ => Int) (k.wrap (.ofNat a)) (.ofNat a) (Nat.blt a (topOf k))) (fun a k => wr k (.negSucc a))
theorem fWr_eq (a : Int) (k : IntKind) : fWr a k = wr k a := by
  cases a with
  | ofNat a =>
    show Bool.rec (motive := fun _ => Int) (k.wrap (.ofNat a)) (.ofNat a) (Nat.blt a (topOf k)) = (bif Nat.blt a (topOf k) then .ofNat a else k.wrap (.ofNat a))
    cases Nat.blt a (topOf k) <;> rfl
  | negSucc a => rfl
noncomputable def fLt : Int → Int → Bool := Int.rec (motive := fun _ => Int → Bool) (fun a => Int.rec (motive := fun _ => Bool) (fun b => Nat.blt a b) (fun _ => false)) (fun a => Int.rec (motive := fun _ => Bool) (fun _ => true) (fun b => Nat.blt b a))
theorem fLt_eq (a b : Int) : fLt a b = ltI a b := by cases a <;> cases b <;> rfl
noncomputable def fEqI : Int → Int → Bool := Int.rec (motive := fun _ => Int → Bool) (fun a => Int.rec (motive := fun _ => Bool) (fun b => Nat.beq a b) (fun _ => false)) (fun a => Int.rec (motive := fun _ => Bool) (fun _ => false) (fun b => Nat.beq a b))
theorem fEqI_eq (a b : Int) : fEqI a b = eqI a b := by cases a <;> cases b <;> rfl
noncomputable def fNot : Bool → Bool := Bool.rec (motive := fun _ => Bool) true false
theorem fNot_eq (a : Bool) : fNot a = !a := by cases a <;> rfl
/-- An operation of two numbers. -/
noncomputable def fII : BinOp → IntKind → Int → IntKind → Int → Program → TypeId → Operand → Operand → (AV → Out) → Out :=
  BinOp.rec (motive := fun _ => IntKind → Int → IntKind → Int → Program → TypeId → Operand → Operand → (AV → Out) → Out)
    (fun k a j b _ _ _ _ c => kB (eqK k j) (c (.int k (fWr (fAddI a b) k))))
    (fun k a j b P t x y c => kO (binA P .sub t x y (.int k a) (.int j b)) c)
    (fun k a j b P t x y c => kO (binA P .mul t x y (.int k a) (.int j b)) c)
    (fun k a j b P t x y c => kO (binA P .quo t x y (.int k a) (.int j b)) c)
    (fun k a j b P t x y c => kO (binA P .rem t x y (.int k a) (.int j b)) c)
    (fun k a j b P t x y c => kO (binA P .and t x y (.int k a) (.int j b)) c)
    (fun k a j b P t x y c => kO (binA P .or t x y (.int k a) (.int j b)) c)
    (fun k a j b P t x y c => kO (binA P .xor t x y (.int k a) (.int j b)) c)
    (fun k a j b P t x y c => kO (binA P .shl t x y (.int k a) (.int j b)) c)
    (fun k a j b P t x y c => kO (binA P .shr t x y (.int k a) (.int j b)) c)
    (fun k a j b P t x y c => kO (binA P .andNot t x y (.int k a) (.int j b)) c)
    (fun k a j b _ _ _ _ c => kB (eqK k j) (c (.bool (fEqI a b))))
    (fun k a j b _ _ _ _ c => kB (eqK k j) (c (.bool (fNot (fEqI a b)))))
    (fun k a j b _ _ _ _ c => kB (eqK k j) (c (.bool (fLt a b))))
    (fun k a j b _ _ _ _ c => kB (eqK k j) (c (.bool (fNot (fLt b a)))))
    (fun k a j b _ _ _ _ c => kB (eqK k j) (c (.bool (fLt b a))))
    (fun k a j b _ _ _ _ c => kB (eqK k j) (c (.bool (fNot (fLt a b)))))
theorem fII_eq (op : BinOp) (k : IntKind) (a : Int) (j : IntKind) (b : Int) (P : Program) (t : TypeId) (x y : Operand) (c : AV → Out) : fII op k a j b P t x y c = kO (binA P op t x y (.int k a) (.int j b)) c := by
  cases op <;> try rfl
  case add =>
    show kB (eqK k j) (c (.int k (fWr (fAddI a b) k))) = _
    rw [fWr_eq, fAddI_eq]
    simp only [binA, arI]
    cases eqK k j <;> rfl
  case eql =>
    show kB (eqK k j) (c (.bool (fEqI a b))) = _
    rw [fEqI_eq]
    simp only [binA, arI, cmpI]
    cases eqK k j <;> rfl
  case neq =>
    show kB (eqK k j) (c (.bool (fNot (fEqI a b)))) = _
    rw [fEqI_eq, fNot_eq]
    simp only [binA, arI, cmpI]
    cases eqK k j <;> rfl
  case lss =>
    show kB (eqK k j) (c (.bool (fLt a b))) = _
    rw [fLt_eq]
    simp only [binA, arI, cmpI]
    cases eqK k j <;> rfl
  case leq =>
    show kB (eqK k j) (c (.bool (fNot (fLt b a)))) = _
    rw [fLt_eq, fNot_eq]
    simp only [binA, arI, cmpI]
    cases eqK k j <;> rfl
  case gtr =>
    show kB (eqK k j) (c (.bool (fLt b a))) = _
    rw [fLt_eq]
    simp only [binA, arI, cmpI]
    cases eqK k j <;> rfl
  case geq =>
    show kB (eqK k j) (c (.bool (fNot (fLt a b)))) = _
    rw [fLt_eq, fNot_eq]
    simp only [binA, arI, cmpI]
    cases eqK k j <;> rfl

noncomputable def fInt : AV → BinOp → IntKind → Int → Program → TypeId → Operand → Operand → (AV → Out) → Out :=
  AV.rec (motive_1 := fun _ => BinOp → IntKind → Int → Program → TypeId → Operand → Operand → (AV → Out) → Out) (motive_2 := fun _ => PUnit)
    (fun f0 => fun op k a P t x y c => kO (binA P op t x y (.int k a) (.bool f0)) c)
    (fun j b => fun op k a P t x y c => fII op k a j b P t x y c)
    (fun f0 f1 => fun op k a P t x y c => kO (binA P op t x y (.int k a) (.str f0 f1)) c)
    (fun f0 f1 => fun op k a P t x y c => kO (binA P op t x y (.int k a) (.ptr f0 f1)) c)
    (fun op k a P t x y c => kO (binA P op t x y (.int k a) (.nilp)) c)
    (fun f0 f1 f2 f3 f4 => fun op k a P t x y c => kO (binA P op t x y (.int k a) (.sl f0 f1 f2 f3 f4)) c)
    (fun op k a P t x y c => kO (binA P op t x y (.int k a) (.nils)) c)
    (fun f0 => fun op k a P t x y c => kO (binA P op t x y (.int k a) (.map f0)) c)
    (fun op k a P t x y c => kO (binA P op t x y (.int k a) (.nilm)) c)
    (fun f0 f1 f2 _ _ => fun op k a P t x y c => kO (binA P op t x y (.int k a) (.fn f0 f1 f2)) c)
    (fun op k a P t x y c => kO (binA P op t x y (.int k a) (.nilf)) c)
    (fun f0 f1 _ => fun op k a P t x y c => kO (binA P op t x y (.int k a) (.iface f0 f1)) c)
    (fun op k a P t x y c => kO (binA P op t x y (.int k a) (.nili)) c)
    (fun f0 _ => fun op k a P t x y c => kO (binA P op t x y (.int k a) (.agg f0)) c)
    (fun f0 _ => fun op k a P t x y c => kO (binA P op t x y (.int k a) (.tup f0)) c)
    (fun f0 f1 f2 f3 => fun op k a P t x y c => kO (binA P op t x y (.int k a) (.cls f0 f1 f2 f3)) c)
    PUnit.unit (fun _ _ _ _ => PUnit.unit)
noncomputable def fBin : AV → AV → BinOp → Program → TypeId → Operand → Operand → (AV → Out) → Out :=
  AV.rec (motive_1 := fun _ => AV → BinOp → Program → TypeId → Operand → Operand → (AV → Out) → Out) (motive_2 := fun _ => PUnit)
    (fun f0 => fun b op P t x y c => kO (binA P op t x y (.bool f0) b) c)
    (fun ka a => fun b op P t x y c => fInt b op ka a P t x y c)
    (fun f0 f1 => fun b op P t x y c => kO (binA P op t x y (.str f0 f1) b) c)
    (fun f0 f1 => fun b op P t x y c => kO (binA P op t x y (.ptr f0 f1) b) c)
    (fun b op P t x y c => kO (binA P op t x y (.nilp) b) c)
    (fun f0 f1 f2 f3 f4 => fun b op P t x y c => kO (binA P op t x y (.sl f0 f1 f2 f3 f4) b) c)
    (fun b op P t x y c => kO (binA P op t x y (.nils) b) c)
    (fun f0 => fun b op P t x y c => kO (binA P op t x y (.map f0) b) c)
    (fun b op P t x y c => kO (binA P op t x y (.nilm) b) c)
    (fun f0 f1 f2 _ _ => fun b op P t x y c => kO (binA P op t x y (.fn f0 f1 f2) b) c)
    (fun b op P t x y c => kO (binA P op t x y (.nilf) b) c)
    (fun f0 f1 _ => fun b op P t x y c => kO (binA P op t x y (.iface f0 f1) b) c)
    (fun b op P t x y c => kO (binA P op t x y (.nili) b) c)
    (fun f0 _ => fun b op P t x y c => kO (binA P op t x y (.agg f0) b) c)
    (fun f0 _ => fun b op P t x y c => kO (binA P op t x y (.tup f0) b) c)
    (fun f0 f1 f2 f3 => fun b op P t x y c => kO (binA P op t x y (.cls f0 f1 f2 f3) b) c)
    PUnit.unit (fun _ _ _ _ => PUnit.unit)
theorem fBin_eq (a b : AV) (op : BinOp) (P : Program) (t : TypeId) (x y : Operand) (k : AV → Out) : fBin a b op P t x y k = kO (binA P op t x y a b) k := by
  cases a <;> try rfl
  cases b <;> try rfl
  exact fII_eq ..


/-! Calls. -/
def lenS (P : Program) : List TypeId → Bool
  | t :: _ => match P.underlying t with
    | some .string => true
    | _ => false
  | [] => false
def lenL (P : Program) : List TypeId → Bool
  | t :: _ => match P.underlying t with
    | some (.slice _) => true
    | _ => false
  | [] => false
/-- A length, where it is plain. -/
noncomputable def fLenV : AV → Program → List TypeId → Option Nat :=
  AV.rec (motive_1 := fun _ => Program → List TypeId → Option Nat) (motive_2 := fun _ => PUnit)
    (fun _ => fun _ _ => none)
    (fun _ _ => fun _ _ => none)
    (fun n _ => fun P ts => Bool.rec (motive := fun _ => Option Nat) none (some n) (lenS P ts))
    (fun _ _ => fun _ _ => none)
    (fun _ _ => none)
    (fun _ _ n _ _ => fun P ts => Bool.rec (motive := fun _ => Option Nat) none (some n) (lenL P ts))
    (fun P ts => Bool.rec (motive := fun _ => Option Nat) none (some 0) (lenL P ts))
    (fun _ => fun _ _ => none)
    (fun _ _ => none)
    (fun _ _ _ _ _ => fun _ _ => none)
    (fun _ _ => none)
    (fun _ _ _ => fun _ _ => none)
    (fun _ _ => none)
    (fun _ _ => fun _ _ => none)
    (fun _ _ => fun _ _ => none)
    (fun _ _ _ _ => fun _ _ => none)
    PUnit.unit (fun _ _ _ _ => PUnit.unit)
noncomputable def fLenB (ty : TypeId) (ts : List TypeId) (P : Program) (h : Hp) (d : List AD) (k : KV) (x : AV) : Option Nat → Out :=
  Option.rec (motive := fun _ => Out) (kOR (OR.onlyV (builtinA P .len ts ty h [x])) d k) (fun n => k (.int .i64 (.ofNat n)) h d)
noncomputable def fLen1 : List AV → TypeId → List TypeId → Program → Hp → List AD → KV → Out :=
  List.rec (motive := fun _ => TypeId → List TypeId → Program → Hp → List AD → KV → Out) (fun ty ts P h d k => kOR (OR.onlyV (builtinA P .len ts ty h [])) d k)
    (fun x l _ ty ts P h d k => List.rec (motive := fun _ => Out) (fLenB ty ts P h d k x (fLenV x P ts)) (fun y l _ => kOR (OR.onlyV (builtinA P .len ts ty h (x :: y :: l))) d k) l)
theorem fLenV_ok {x : AV} {P : Program} {ts : List TypeId} {n : Nat} (he : fLenV x P ts = some n) (ty : TypeId) (h : Hp) : builtinA P .len ts ty h [x] = .val (.int .i64 (.ofNat n)) h := by
  cases x <;> try (cases he; done)
  case str m v =>
    change Bool.rec (motive := fun _ => Option Nat) none (some m) (lenS P ts) = some n at he
    cases hl : lenS P ts with
    | false => rw [hl] at he; cases he
    | true =>
      rw [hl] at he
      injection he with he
      subst he
      unfold lenS at hl
      split at hl
      · unfold builtinA
        simp only []
        split at hl
        · rename_i hu; rw [hu]
        · cases hl
      · cases hl
  case sl b o m e c =>
    change Bool.rec (motive := fun _ => Option Nat) none (some m) (lenL P ts) = some n at he
    cases hl : lenL P ts with
    | false => rw [hl] at he; cases he
    | true =>
      rw [hl] at he
      injection he with he
      subst he
      unfold lenL at hl
      split at hl
      · unfold builtinA
        simp only []
        split at hl
        · rename_i hu; rw [hu]
        · cases hl
      · cases hl
  case nils =>
    change Bool.rec (motive := fun _ => Option Nat) none (some 0) (lenL P ts) = some n at he
    cases hl : lenL P ts with
    | false => rw [hl] at he; cases he
    | true =>
      rw [hl] at he
      injection he with he
      subst he
      unfold lenL at hl
      split at hl
      · unfold builtinA
        simp only []
        split at hl
        · rename_i hu; rw [hu]; rfl
        · cases hl
      · cases hl
theorem fLen1_eq (l : List AV) (ty : TypeId) (ts : List TypeId) (P : Program) (h : Hp) (d : List AD) (k : KV) : fLen1 l ty ts P h d k = kOR (OR.onlyV (builtinA P .len ts ty h l)) d k := by
  match l with
  | [] => rfl
  | x :: y :: l => rfl
  | [x] =>
    show fLenB ty ts P h d k x (fLenV x P ts) = _
    cases he : fLenV x P ts with
    | none => rfl
    | some n =>
      rw [fLenV_ok he ty h]
      rfl
noncomputable def fBI : Builtin → List TypeId → TypeId → List AV → Program → Hp → List AD → KV → Out :=
  Builtin.rec (motive := fun _ => List TypeId → TypeId → List AV → Program → Hp → List AD → KV → Out)
    (fun ts ty args P h d k => kOR (OR.onlyV (builtinA P .append ts ty h args)) d k)
    (fun ts ty args P h d k => kOR (OR.onlyV (builtinA P .cap ts ty h args)) d k)
    (fun ts ty args P h d k => kOR (OR.onlyV (builtinA P .clear ts ty h args)) d k)
    (fun ts ty args P h d k => kOR (OR.onlyV (builtinA P .close ts ty h args)) d k)
    (fun ts ty args P h d k => kOR (OR.onlyV (builtinA P .complex ts ty h args)) d k)
    (fun ts ty args P h d k => kOR (OR.onlyV (builtinA P .copy ts ty h args)) d k)
    (fun ts ty args P h d k => kOR (OR.onlyV (builtinA P .delete ts ty h args)) d k)
    (fun ts ty args P h d k => kOR (OR.onlyV (builtinA P .imag ts ty h args)) d k)
    (fun ts ty args P h d k => fLen1 args ty ts P h d k)
    (fun ts ty args P h d k => kOR (OR.onlyV (builtinA P .make ts ty h args)) d k)
    (fun ts ty args P h d k => kOR (OR.onlyV (builtinA P .max ts ty h args)) d k)
    (fun ts ty args P h d k => kOR (OR.onlyV (builtinA P .min ts ty h args)) d k)
    (fun ts ty args P h d k => kOR (OR.onlyV (builtinA P .new ts ty h args)) d k)
    (fun ts ty args P h d k => kOR (OR.onlyV (builtinA P .panic ts ty h args)) d k)
    (fun ts ty args P h d k => kOR (OR.onlyV (builtinA P .print ts ty h args)) d k)
    (fun ts ty args P h d k => kOR (OR.onlyV (builtinA P .println ts ty h args)) d k)
    (fun ts ty args P h d k => kOR (OR.onlyV (builtinA P .real ts ty h args)) d k)
    (fun ts ty args P h d k => kOR (OR.onlyV (builtinA P .recover ts ty h args)) d k)
    (fun ts ty args P h d k => kOR (OR.onlyV (builtinA P .unsafeAdd ts ty h args)) d k)
    (fun ts ty args P h d k => kOR (OR.onlyV (builtinA P .unsafeSlice ts ty h args)) d k)
    (fun ts ty args P h d k => kOR (OR.onlyV (builtinA P .unsafeSliceData ts ty h args)) d k)
    (fun ts ty args P h d k => kOR (OR.onlyV (builtinA P .unsafeString ts ty h args)) d k)
    (fun ts ty args P h d k => kOR (OR.onlyV (builtinA P .unsafeStringData ts ty h args)) d k)
    (fun ts ty args P h d k => kOR (OR.onlyV (builtinA P .unsafeSizeof ts ty h args)) d k)
    (fun ts ty args P h d k => kOR (OR.onlyV (builtinA P .unsafeAlignof ts ty h args)) d k)
    (fun ts ty args P h d k => kOR (OR.onlyV (builtinA P .unsafeOffsetof ts ty h args)) d k)
theorem fBI_eq (b : Builtin) (ts : List TypeId) (ty : TypeId) (args : List AV) (P : Program) (h : Hp) (d : List AD) (k : KV) : fBI b ts ty args P h d k = kOR (OR.onlyV (builtinA P b ts ty h args)) d k := by
  cases b <;> try rfl
  exact fLen1_eq ..
noncomputable def fCallee : Callee → List TypeId → TypeId → List AV → Program → (Req → Out) → Env → Hp → List AD → KV → Out :=
  Callee.rec (motive := fun _ => List TypeId → TypeId → List AV → Program → (Req → Out) → Env → Hp → List AD → KV → Out)
    (fun f _ _ args _ rec e h d k => kO (fOpd f h.g e) fun f => kRet (rec (.call f args h)) d k)
    (fun _ _ _ _ _ _ _ _ _ _ _ => .no)
    (fun b ts ty args P _ _ h d k => fBI b ts ty args P h d k)

noncomputable def fOpds : List Operand → Nat → Env → (List AV → Out) → Out :=
  List.rec (motive := fun _ => Nat → Env → (List AV → Out) → Out) (fun _ _ k => k []) (fun x _ ih N e k => kO (fOpd x N e) fun v => ih N e fun r => k (v :: r))
theorem fOpds_eq : ∀ (l : List Operand) (N : Nat) (e : Env) (k : List AV → Out), fOpds l N e k = kL' (opds N e l) k
  | [], _, _, _ => rfl
  | x :: l, N, e, k => by
    show (kO (fOpd x N e) fun v => fOpds l N e fun r => k (v :: r)) = kL' (match opd N e x with | some v => (match opds N e l with | some r => some (v :: r) | none => none) | none => none) k
    rw [fOpd_eq]
    cases opd N e x with
    | none => rfl
    | some v =>
      show (fOpds l N e fun r => k (v :: r)) = _
      rw [fOpds_eq l]
      simp only []
      cases opds N e l <;> rfl
noncomputable def kPs : Option (List (Nat × AV)) → (List (Nat × AV) → Out) → Out := Option.rec (motive := fun _ => (List (Nat × AV) → Out) → Out) (fun _ => .no) (fun v k => k v)
noncomputable def fParts : List (Nat × Operand) → Nat → Env → (List (Nat × AV) → Out) → Out :=
  List.rec (motive := fun _ => Nat → Env → (List (Nat × AV) → Out) → Out) (fun _ _ k => k []) (fun x _ ih N e k => kO (fOpd x.2 N e) fun v => ih N e fun r => k ((x.1, v) :: r))
theorem fParts_eq : ∀ (l : List (Nat × Operand)) (N : Nat) (e : Env) (k : List (Nat × AV) → Out), fParts l N e k = kPs (opParts N e l) k
  | [], _, _, _ => rfl
  | (i, x) :: l, N, e, k => by
    show (kO (fOpd x N e) fun v => fParts l N e fun r => k ((i, v) :: r)) = kPs (match opd N e x with | some v => (match opParts N e l with | some r => some ((i, v) :: r) | none => none) | none => none) k
    rw [fOpd_eq]
    cases opd N e x with
    | none => rfl
    | some v =>
      show (fParts l N e fun r => k ((i, v) :: r)) = _
      rw [fParts_eq l]
      simp only []
      cases opParts N e l <;> rfl
noncomputable def fNth {α : Type} : Nat → List α → Option α := Nat.rec (motive := fun _ => List α → Option α) (List.rec (motive := fun _ => Option α) none (fun a _ _ => some a)) (fun _ ih => List.rec (motive := fun _ => Option α) none (fun _ t _ => ih t))
theorem fNth_eq {α : Type} : ∀ (n : Nat) (l : List α), fNth n l = l[n]?
  | 0, [] => rfl
  | 0, _ :: _ => rfl
  | n + 1, [] => rfl
  | n + 1, a :: l => by show fNth n l = _; rw [fNth_eq n l]; simp
/-- A struct's cells, and where its fields lie. -/
def bZ (P : Program) (t : TypeId) : Option (List AV) := match zT P t with
  | some z => z.cells
  | none => none
def bP (P : Program) (t : TypeId) : Option (List (Nat × Nat)) := match P.underlying t with
  | some (.struct fs) => seqL (fs.toList.map (placeOf P))
  | _ => none
noncomputable def kNN : Option (Nat × Nat) → (Nat → Nat → Out) → Out := Option.rec (motive := fun _ => (Nat → Nat → Out) → Out) (fun _ => .no) (fun p k => k p.1 p.2)
noncomputable def fFill (pl : List (Nat × Nat)) : List (Nat × AV) → List AV → (List AV → Out) → Out :=
  List.rec (motive := fun _ => List AV → (List AV → Out) → Out) (fun l k => k l)
    (fun iv _ ih l k => kNN (fNth iv.1 pl) fun o s => kL' (fCells iv.2) fun vs => kB (Nat.beq (fLen vs 0) s) (kB (Nat.ble (Nat.add o (fLen vs 0)) (fLen l 0)) (ih (fLay vs o l) k)))
theorem fFill_eq (pl : List (Nat × Nat)) : ∀ (ps : List (Nat × AV)) (l : List AV) (k : List AV → Out), fFill pl ps l k = kL' (fillL (fun i => pl[i]?) l ps) k
  | [], _, _ => rfl
  | (i, v) :: ps, l, k => by
    show (kNN (fNth i pl) fun o s => kL' (fCells v) fun vs => kB (Nat.beq (fLen vs 0) s) (kB (Nat.ble (Nat.add o (fLen vs 0)) (fLen l 0)) (fFill pl ps (fLay vs o l) k))) = _
    rw [fNth_eq, fCells_eq]
    unfold fillL
    cases pl[i]? with
    | none => rfl
    | some os =>
      obtain ⟨o, s⟩ := os
      simp only []
      cases v.cells with
      | none => rfl
      | some vs =>
        show kB (Nat.beq (fLen vs 0) s) _ = _
        have e1 : fLen vs 0 = vs.length := by rw [fLen_eq]; simp
        have e2 : fLen l 0 = l.length := by rw [fLen_eq]; simp
        rw [e1, e2]
        simp only []
        cases Nat.beq vs.length s with
        | false => rfl
        | true =>
          simp only [cond_true]
          unfold lay
          show kB (Nat.ble (o + vs.length) l.length) _ = _
          cases hle : Nat.ble (o + vs.length) l.length with
          | false => rfl
          | true =>
            have := Nat.le_of_ble_eq_true hle
            simp only [cond_true]
            rw [fLay_eq vs o l (by omega)]
            exact fFill_eq pl ps _ k
/-- A value of parts. -/
noncomputable def fBuild : Option (List AV) → Option (List (Nat × Nat)) → Program → TypeId → List (Nat × AV) → Hp → List AD → KV → Out :=
  Option.rec (motive := fun _ => Option (List (Nat × Nat)) → Program → TypeId → List (Nat × AV) → Hp → List AD → KV → Out) (fun _ P t vs h d k => kOR (k1 (fun z => kT (aBuild P h vs z.cells) (P.underlying t)) (zT P t)) d k)
    (fun z => Option.rec (motive := fun _ => Program → TypeId → List (Nat × AV) → Hp → List AD → KV → Out) (fun P t vs h d k => kOR (k1 (fun z => kT (aBuild P h vs z.cells) (P.underlying t)) (zT P t)) d k)
      (fun pl _ _ vs h d k => fFill pl vs z fun l => k (.agg l) h d))
theorem aBuild_nc {P : Program} {h : Hp} {vs : List (Nat × AV)} {z : Option (List AV)} {d : TypeDesc} : (∀ f a, aBuild P h vs z d ≠ .call f a) ∧ ∀ f a, aBuild P h vs z d ≠ .dfr f a := by
  have key : ∀ o : Option AV, (∀ f a, OR.ofV h o ≠ .call f a) ∧ ∀ f a, OR.ofV h o ≠ .dfr f a := by
    intro o
    cases o <;> exact ⟨(by intro _ _ q; cases q), (by intro _ _ q; cases q)⟩
  have no : (∀ f a, OR.no ≠ .call f a) ∧ ∀ f a, OR.no ≠ .dfr f a := ⟨(by intro _ _ q; cases q), (by intro _ _ q; cases q)⟩
  unfold aBuild
  split
  · split
    · exact key _
    · exact no
  · split
    · exact key _
    · exact no
  · exact no
theorem build_nc {P : Program} {h : Hp} {vs : List (Nat × AV)} {t : TypeId} : (∀ f a, k1 (fun z => kT (aBuild P h vs z.cells) (P.underlying t)) (zT P t) ≠ .call f a) ∧ ∀ f a, k1 (fun z => kT (aBuild P h vs z.cells) (P.underlying t)) (zT P t) ≠ .dfr f a := by
  cases zT P t with
  | none => exact ⟨(by intro _ _ q; cases q), (by intro _ _ q; cases q)⟩
  | some z =>
    show (∀ f a, kT (aBuild P h vs z.cells) (P.underlying t) ≠ .call f a) ∧ ∀ f a, kT (aBuild P h vs z.cells) (P.underlying t) ≠ .dfr f a
    cases P.underlying t with
    | none => exact ⟨(by intro _ _ q; cases q), (by intro _ _ q; cases q)⟩
    | some u => exact aBuild_nc
theorem kOR_o3' (rec : Req → Out) (h : Hp) (d : List AD) (k : KV) (R : OR) (hc : (∀ f a, R ≠ .call f a) ∧ ∀ f a, R ≠ .dfr f a) : kOR R d k = kO3 (o3 rec h d R) k := by
  cases R with
  | call f a => exact absurd rfl (hc.1 f a)
  | dfr f a => exact absurd rfl (hc.2 f a)
  | _ => rfl
theorem fBuild_eq (rec : Req → Out) (P : Program) (t : TypeId) (vs : List (Nat × AV)) (h : Hp) (d : List AD) (k : KV) : fBuild (bZ P t) (bP P t) P t vs h d k = kO3 (o3 rec h d (k1 (fun z => kT (aBuild P h vs z.cells) (P.underlying t)) (zT P t))) k := by
  cases hz : bZ P t with
  | none => exact kOR_o3' rec h d k _ build_nc
  | some z =>
    cases hp : bP P t with
    | none => exact kOR_o3' rec h d k _ build_nc
    | some pl =>
      show (fFill pl vs z fun l => k (.agg l) h d) = _
      rw [fFill_eq]
      unfold bZ at hz
      unfold bP at hp
      cases hzt : zT P t with
      | none => rw [hzt] at hz; cases hz
      | some zz =>
        rw [hzt] at hz
        simp only at hz
        show _ = kO3 (o3 rec h d (kT (aBuild P h vs zz.cells) (P.underlying t))) k
        rw [hz]
        cases hu : P.underlying t with
        | none => rw [hu] at hp; cases hp
        | some u =>
          rw [hu] at hp
          cases u <;> simp only at hp <;> try (cases hp; done)
          rename_i fs
          show _ = kO3 (o3 rec h d (aBuild P h vs (some z) (.struct fs))) k
          unfold aBuild
          simp only []
          rw [hp]
          simp only []
          cases fillL (fun i => pl[i]?) z vs <;> rfl

def isNot : UnOp → Bool
  | .not => true
  | _ => false
noncomputable def fUn : AV → UnOp → (AV → Out) → Out :=
  AV.rec (motive_1 := fun _ => UnOp → (AV → Out) → Out) (motive_2 := fun _ => PUnit)
    (fun b => fun op k => Bool.rec (motive := fun _ => Out) (kO (unA op (.bool b)) k) (k (.bool (fNot b))) (isNot op))
    (fun f0 f1 => fun op k => kO (unA op (.int f0 f1)) k)
    (fun f0 f1 => fun op k => kO (unA op (.str f0 f1)) k)
    (fun f0 f1 => fun op k => kO (unA op (.ptr f0 f1)) k)
    (fun op k => kO (unA op (.nilp)) k)
    (fun f0 f1 f2 f3 f4 => fun op k => kO (unA op (.sl f0 f1 f2 f3 f4)) k)
    (fun op k => kO (unA op (.nils)) k)
    (fun f0 => fun op k => kO (unA op (.map f0)) k)
    (fun op k => kO (unA op (.nilm)) k)
    (fun f0 f1 f2 _ _ => fun op k => kO (unA op (.fn f0 f1 f2)) k)
    (fun op k => kO (unA op (.nilf)) k)
    (fun f0 f1 _ => fun op k => kO (unA op (.iface f0 f1)) k)
    (fun op k => kO (unA op (.nili)) k)
    (fun f0 _ => fun op k => kO (unA op (.agg f0)) k)
    (fun f0 _ => fun op k => kO (unA op (.tup f0)) k)
    (fun f0 f1 f2 f3 => fun op k => kO (unA op (.cls f0 f1 f2 f3)) k)
    PUnit.unit (fun _ _ _ _ => PUnit.unit)
theorem fUn_eq (a : AV) (op : UnOp) (k : AV → Out) : fUn a op k = kO (unA op a) k := by
  cases a <;> try rfl
  rename_i b
  show Bool.rec (motive := fun _ => Out) (kO (unA op (.bool b)) k) (k (.bool (fNot b))) (isNot op) = _
  cases op <;> first | rfl | (rw [fNot_eq]; rfl)
def isStr (P : Program) (t : TypeId) : Bool := match P.underlying t with
  | some .string => true
  | _ => false
noncomputable def fByte (v i : Nat) : Nat := Nat.land (Nat.shiftRight v (Nat.mul 8 i)) 255
noncomputable def fIdx : AV → AV → Program → TypeId → (AV → Out) → Out :=
  AV.rec (motive_1 := fun _ => AV → Program → TypeId → (AV → Out) → Out) (motive_2 := fun _ => PUnit)
    (fun f0 => fun i P t k => kO (indexA P t (.bool f0) i) k)
    (fun f0 f1 => fun i P t k => kO (indexA P t (.int f0 f1) i) k)
    (fun n v => fun i P t k => kN (natO i) fun i => kB (isStr P t) (kB (Nat.blt i n) (k (.int .u8 (.ofNat (fByte v i))))))
    (fun f0 f1 => fun i P t k => kO (indexA P t (.ptr f0 f1) i) k)
    (fun i P t k => kO (indexA P t (.nilp) i) k)
    (fun f0 f1 f2 f3 f4 => fun i P t k => kO (indexA P t (.sl f0 f1 f2 f3 f4) i) k)
    (fun i P t k => kO (indexA P t (.nils) i) k)
    (fun f0 => fun i P t k => kO (indexA P t (.map f0) i) k)
    (fun i P t k => kO (indexA P t (.nilm) i) k)
    (fun f0 f1 f2 _ _ => fun i P t k => kO (indexA P t (.fn f0 f1 f2) i) k)
    (fun i P t k => kO (indexA P t (.nilf) i) k)
    (fun f0 f1 _ => fun i P t k => kO (indexA P t (.iface f0 f1) i) k)
    (fun i P t k => kO (indexA P t (.nili) i) k)
    (fun f0 _ => fun i P t k => kO (indexA P t (.agg f0) i) k)
    (fun f0 _ => fun i P t k => kO (indexA P t (.tup f0) i) k)
    (fun f0 f1 f2 f3 => fun i P t k => kO (indexA P t (.cls f0 f1 f2 f3) i) k)
    PUnit.unit (fun _ _ _ _ => PUnit.unit)
theorem fIdx_eq (x i : AV) (P : Program) (t : TypeId) (k : AV → Out) : fIdx x i P t k = kO (indexA P t x i) k := by
  cases x <;> try rfl
  rename_i n v
  show kN (natO i) (fun i => kB (isStr P t) (kB (Nat.blt i n) (k (.int .u8 (.ofNat (fByte v i)))))) = _
  rw [natO_eq]
  unfold indexA
  cases i <;> try rfl
  rename_i kk z
  cases z with
  | negSucc z => rfl
  | ofNat z =>
    show kB (isStr P t) _ = _
    unfold isStr
    simp only []
    cases P.underlying t with
    | none => rfl
    | some u =>
      cases u <;> try rfl
      show kB (Nat.blt z n) _ = _
      simp only []
      cases Nat.blt z n <;> rfl
def cvInfo (P : Program) (s t : TypeId) : Option IntKind := match P.underlying s, P.underlying t with
  | some _, some (.int k) => some k
  | _, _ => none
noncomputable def fConv : AV → Hp → Program → TypeId → TypeId → (AV → Out) → Out :=
  AV.rec (motive_1 := fun _ => Hp → Program → TypeId → TypeId → (AV → Out) → Out) (motive_2 := fun _ => PUnit)
    (fun f0 => fun h P s t k => kO (convA P s t h (.bool f0)) k)
    (fun j n => fun h P s t k => Option.rec (motive := fun _ => Out) (kO (convA P s t h (.int j n)) k) (fun kk => k (.int kk (fWr n kk))) (cvInfo P s t))
    (fun f0 f1 => fun h P s t k => kO (convA P s t h (.str f0 f1)) k)
    (fun f0 f1 => fun h P s t k => kO (convA P s t h (.ptr f0 f1)) k)
    (fun h P s t k => kO (convA P s t h (.nilp)) k)
    (fun f0 f1 f2 f3 f4 => fun h P s t k => kO (convA P s t h (.sl f0 f1 f2 f3 f4)) k)
    (fun h P s t k => kO (convA P s t h (.nils)) k)
    (fun f0 => fun h P s t k => kO (convA P s t h (.map f0)) k)
    (fun h P s t k => kO (convA P s t h (.nilm)) k)
    (fun f0 f1 f2 _ _ => fun h P s t k => kO (convA P s t h (.fn f0 f1 f2)) k)
    (fun h P s t k => kO (convA P s t h (.nilf)) k)
    (fun f0 f1 _ => fun h P s t k => kO (convA P s t h (.iface f0 f1)) k)
    (fun h P s t k => kO (convA P s t h (.nili)) k)
    (fun f0 _ => fun h P s t k => kO (convA P s t h (.agg f0)) k)
    (fun f0 _ => fun h P s t k => kO (convA P s t h (.tup f0)) k)
    (fun f0 f1 f2 f3 => fun h P s t k => kO (convA P s t h (.cls f0 f1 f2 f3)) k)
    PUnit.unit (fun _ _ _ _ => PUnit.unit)
theorem fConv_eq (x : AV) (h : Hp) (P : Program) (s t : TypeId) (k : AV → Out) : fConv x h P s t k = kO (convA P s t h x) k := by
  cases x <;> try rfl
  rename_i j n
  show Option.rec (motive := fun _ => Out) (kO (convA P s t h (.int j n)) k) (fun kk => k (.int kk (fWr n kk))) (cvInfo P s t) = _
  cases hc : cvInfo P s t with
  | none => rfl
  | some kk =>
    unfold cvInfo at hc
    split at hc
    · rename_i u k2 hs ht
      injection hc with hc
      subst hc
      show k (.int k2 (fWr n k2)) = _
      rw [fWr_eq]
      unfold convA
      rw [hs, ht]
      rfl
    · cases hc
noncomputable def fExt : AV → Nat → (AV → Out) → Out :=
  AV.rec (motive_1 := fun _ => Nat → (AV → Out) → Out) (motive_2 := fun _ => PUnit)
    (fun _ => fun _ _ => .no)
    (fun _ _ => fun _ _ => .no)
    (fun _ _ => fun _ _ => .no)
    (fun _ _ => fun _ _ => .no)
    (fun _ _ => .no)
    (fun _ _ _ _ _ => fun _ _ => .no)
    (fun _ _ => .no)
    (fun _ => fun _ _ => .no)
    (fun _ _ => .no)
    (fun _ _ _ _ _ => fun _ _ => .no)
    (fun _ _ => .no)
    (fun _ _ _ => fun _ _ => .no)
    (fun _ _ => .no)
    (fun _ _ => fun _ _ => .no)
    (fun l _ => fun i k => kO (fNth i l) k)
    (fun _ _ _ _ => fun _ _ => .no)
    PUnit.unit (fun _ _ _ _ => PUnit.unit)
theorem fExt_eq (t : AV) (i : Nat) (k : AV → Out) : fExt t i k = (match t with | .tup l => kO l[i]? k | _ => .no) := by
  cases t <;> try rfl
  rename_i l
  show kO (fNth i l) k = _
  rw [fNth_eq]


/-! One operation. -/
noncomputable def fOp : Op → TypeId → Program → (Req → Out) → Env → Hp → List AD → KV → Out :=
  Op.rec (motive := fun _ => TypeId → Program → (Req → Out) → Env → Hp → List AD → KV → Out)
    (fun x ty P rec e h d k => kO (fOpd x h.g e) fun v => k v h d)
    (fun x ty P rec e h d k => kO (fOpd x h.g e) fun v => k v h d)
    (fun c a b ty P rec e h d k => kO (fOpd c h.g e) fun c => fPick c (fOpd a h.g e) (fOpd b h.g e) fun v => k v h d)
    (fun t ty P rec e h d k => kO (zT P t) fun z => kL' (fCells z) fun l => k (.ptr h.next 0) (h.new (.cells l t false true)) d)
    (fun t x ty P rec e h d k => kO (fOpd x h.g e) fun z => kL' (fCells z) fun l => k (.ptr h.next 0) (h.new (.cells l t false true)) d)
    (fun t ps ty P rec e h d k => fParts ps.toList h.g e fun vs => fBuild (bZ P t) (bP P t) P t vs h d k)
    (fun t len ps ty P rec e h d k => kO3 (o3 rec h d (aopO P e h ty (.buildSlice t len ps))) k)
    (fun t m kk v ty P rec e h d k => kO3 (o3 rec h d (aopO P e h ty (.insert t m kk v))) k)
    (fun t a ty P rec e h d k => kO (fOpd a h.g e) fun a => fLoad a P t h fun v => k v h d)
    (fun t a v ty P rec e h d k => kO (fOpd a h.g e) fun a => kO (fOpd v h.g e) fun v => fStore a v P t h fun h => k (.tup []) h d)
    (fun g ty P rec e h d k => kO3 (o3 rec h d (aopO P e h ty (.ready g))) k)
    (fun g ty P rec e h d k => kO3 (o3 rec h d (aopO P e h ty (.waits g))) k)
    (fun x ty P rec e h d k => kO (fOpd x h.g e) fun x => kOR (aNilCheck h x) d k)
    (fun op t x y yt ty P rec e h d k => kO (fOpd x h.g e) fun a => kO (fOpd y h.g e) fun b => fBin a b op P t x y fun v => k v h d)
    (fun op t x ty P rec e h d k => kO (fOpd x h.g e) fun a => fUn a op fun v => k v h d)
    (fun s t x ty P rec e h d k => kO (fOpd x h.g e) fun x => fConv x h P s t fun v => k v h d)
    (fun t x ty P rec e h d k => kO3 (o3 rec h d (aopO P e h ty (.sliceToArrayPointer t x))) k)
    (fun t x ty P rec e h d k => kO3 (o3 rec h d (aopO P e h ty (.makeInterface t x))) k)
    (fun fn a c ty P rec e h d k => kO3 (o3 rec h d (aopO P e h ty (.makeFunc fn a c))) k)
    (fun t r ty P rec e h d k => kO3 (o3 rec h d (aopO P e h ty (.makeMap t r))) k)
    (fun t s ty P rec e h d k => kO3 (o3 rec h d (aopO P e h ty (.makeChan t s))) k)
    (fun t l c ty P rec e h d k => kO3 (o3 rec h d (aopO P e h ty (.makeSlice t l c))) k)
    (fun t x lo hi mx ty P rec e h d k => kO3 (o3 rec h d (aopO P e h ty (.slice t x lo hi mx))) k)
    (fun t x f ty P rec e h d k => kO (fOpd x h.g e) fun x => fFA x P t f fun v => k v h d)
    (fun t x f ty P rec e h d k => kO3 (o3 rec h d (aopO P e h ty (.field t x f))) k)
    (fun t x i ty P rec e h d k => kO (fOpd x h.g e) fun x => kO (fOpd i h.g e) fun i => fIA x i P t fun v => k v h d)
    (fun t x i ty P rec e h d k => kO (fOpd x h.g e) fun x => kO (fOpd i h.g e) fun i => fIdx x i P t fun v => k v h d)
    (fun t x i ok ty P rec e h d k => kO3 (o3 rec h d (aopO P e h ty (.lookup t x i ok))) k)
    (fun t m kk v ty P rec e h d k => kO3 (o3 rec h d (aopO P e h ty (.mapUpdate t m kk v))) k)
    (fun t m kk ty P rec e h d k => kO3 (o3 rec h d (aopO P e h ty (.mapEntry t m kk))) k)
    (fun t m s v ty P rec e h d k => kO3 (o3 rec h d (aopO P e h ty (.entryStore t m s v))) k)
    (fun t x ty P rec e h d k => kO3 (o3 rec h d (aopO P e h ty (.range t x))) k)
    (fun it b ty P rec e h d k => kO3 (o3 rec h d (aopO P e h ty (.next it b))) k)
    (fun it ty P rec e h d k => kO3 (o3 rec h d (aopO P e h ty (.entry it))) k)
    (fun x xt t ok ty P rec e h d k => kO3 (o3 rec h d (aopO P e h ty (.typeAssert x xt t ok))) k)
    (fun t i ty P rec e h d k => kO (fOpd t h.g e) fun t => fExt t i fun v => k v h d)
    (fun c ty P rec e h d k => fOpds c.args.toList h.g e fun args => fCallee c.callee c.argTypes.toList ty args P rec e h d k)
    (fun c ty P rec e h d k => kO3 (o3 rec h d (aopO P e h ty (.go c))) k)
    (fun c ty P rec e h d k => kO3 (o3 rec h d (aopO P e h ty (.defer c))) k)
    (fun x ty P rec e h d k => kO3 (o3 rec h d (aopO P e h ty (.panic x))) k)
    (fun ch x ty P rec e h d k => kO3 (o3 rec h d (aopO P e h ty (.send ch x))) k)
    (fun ct ch ok ty P rec e h d k => kO3 (o3 rec h d (aopO P e h ty (.recv ct ch ok))) k)
    (fun cs b ty P rec e h d k => kO3 (o3 rec h d (aopO P e h ty (.select cs b))) k)

theorem kO_k1 (rec : Req → Out) (h : Hp) (d : List AD) (k : KV) (f : AV → OR) (g : AV → Out) (hg : ∀ v, g v = kO3 (o3 rec h d (f v)) k) (o : Option AV) : kO o g = kO3 (o3 rec h d (k1 f o)) k := by
  cases o with
  | none => rfl
  | some v => exact hg v
theorem kO_k2 (rec : Req → Out) (h : Hp) (d : List AD) (k : KV) (f : AV → AV → OR) (g : AV → AV → Out) (hg : ∀ v u, g v u = kO3 (o3 rec h d (f v u)) k) (o o' : Option AV) : (kO o fun v => kO o' (g v)) = kO3 (o3 rec h d (k2 f o o')) k := by
  cases o with
  | none => rfl
  | some v => exact kO_k1 rec h d k (f v) (g v) (hg v) o'
theorem kO_ofV (rec : Req → Out) (h : Hp) (d : List AD) (k : KV) (o : Option AV) : (kO o fun v => k v h d) = kO3 (o3 rec h d (OR.ofV h o)) k := by cases o <;> rfl
theorem kH_ofH (rec : Req → Out) (h : Hp) (d : List AD) (k : KV) (o : Option Hp) : (kH o fun h => k (.tup []) h d) = kO3 (o3 rec h d (OR.ofH o)) k := by cases o <;> rfl
theorem kOR_o3 (rec : Req → Out) (h : Hp) (d : List AD) (k : KV) (R : OR) (hc : ∀ f a, R ≠ .call f a) (hd : ∀ f a, R ≠ .dfr f a) : kOR R d k = kO3 (o3 rec h d R) k := by
  cases R with
  | call f a => exact absurd rfl (hc f a)
  | dfr f a => exact absurd rfl (hd f a)
  | _ => rfl
theorem onlyV_nc {R : OR} : (∀ f a, R.onlyV ≠ .call f a) ∧ ∀ f a, R.onlyV ≠ .dfr f a := by cases R <;> exact ⟨(by intro _ _ q; cases q), (by intro _ _ q; cases q)⟩

theorem fOp_eq (op : Op) (ty : TypeId) (P : Program) (rec : Req → Out) (e : Env) (h : Hp) (d : List AD) (k : KV) : fOp op ty P rec e h d k = kO3 (o3 rec h d (aopO P e h ty op)) k := by
  cases op <;> try rfl
  case move x =>
    show (kO (fOpd x h.g e) fun v => k v h d) = _
    rw [fOpd_eq]; exact kO_ofV rec h d k _
  case assign x =>
    show (kO (fOpd x h.g e) fun v => k v h d) = _
    rw [fOpd_eq]; exact kO_ofV rec h d k _
  case pick c a b =>
    show (kO (fOpd c h.g e) fun c => fPick c (fOpd a h.g e) (fOpd b h.g e) fun v => k v h d) = _
    rw [fOpd_eq, fOpd_eq, fOpd_eq]
    refine kO_k1 rec h d k _ _ (fun v => ?_) _
    cases v <;> try rfl
    rename_i q
    cases q
    · exact kO_ofV rec h d k _
    · exact kO_ofV rec h d k _
  case alloc t =>
    show (kO (zT P t) fun z => kL' (fCells z) _) = _
    refine kO_k1 rec h d k _ _ (fun z => ?_) _
    rw [fCells_eq]
    unfold aAlloc
    cases z.cells <;> rfl
  case box t x =>
    show (kO (fOpd x h.g e) fun z => kL' (fCells z) _) = _
    rw [fOpd_eq]
    refine kO_k1 rec h d k _ _ (fun z => ?_) _
    rw [fCells_eq]
    unfold aAlloc
    cases z.cells <;> rfl
  case load t a =>
    show (kO (fOpd a h.g e) fun a => fLoad a P t h fun v => k v h d) = _
    rw [fOpd_eq]
    refine kO_k1 rec h d k _ _ (fun a => ?_) _
    rw [fLoad_eq]
    exact kO_ofV rec h d k _
  case store t a v =>
    show (kO (fOpd a h.g e) fun a => kO (fOpd v h.g e) fun v => fStore a v P t h fun h => k (.tup []) h d) = _
    rw [fOpd_eq, fOpd_eq]
    refine kO_k2 rec h d k _ _ (fun a v => ?_) _ _
    rw [fStore_eq]
    exact kH_ofH rec h d k _
  case nilCheck x =>
    show (kO (fOpd x h.g e) fun x => kOR (aNilCheck h x) d k) = _
    rw [fOpd_eq]
    refine kO_k1 rec h d k _ _ (fun a => kOR_o3 rec h d k _ (fun f b q => ?_) (fun f b q => ?_)) _
    · unfold aNilCheck at q; split at q <;> cases q
    · unfold aNilCheck at q; split at q <;> cases q
  case binOp op t x y yt =>
    show (kO (fOpd x h.g e) fun a => kO (fOpd y h.g e) fun b => fBin a b op P t x y fun v => k v h d) = _
    rw [fOpd_eq, fOpd_eq]
    refine kO_k2 rec h d k _ _ (fun a b => ?_) _ _
    rw [fBin_eq]
    exact kO_ofV rec h d k _
  case unOp op t x =>
    show (kO (fOpd x h.g e) fun a => fUn a op fun v => k v h d) = _
    rw [fOpd_eq]
    refine kO_k1 rec h d k _ _ (fun a => ?_) _
    rw [fUn_eq]
    exact kO_ofV rec h d k _
  case build t ps =>
    show (fParts ps.toList h.g e fun vs => fBuild (bZ P t) (bP P t) P t vs h d k) = _
    rw [fParts_eq]
    show _ = kO3 (o3 rec h d (kL (fun vs => k1 (fun z => kT (aBuild P h vs z.cells) (P.underlying t)) (zT P t)) (opParts h.g e ps.toList))) k
    cases opParts h.g e ps.toList with
    | none => rfl
    | some vs => exact fBuild_eq ..
  case index t x i =>
    show (kO (fOpd x h.g e) fun x => kO (fOpd i h.g e) fun i => fIdx x i P t fun v => k v h d) = _
    rw [fOpd_eq, fOpd_eq]
    refine kO_k2 rec h d k _ _ (fun x i => ?_) _ _
    rw [fIdx_eq]
    exact kO_ofV rec h d k _
  case convert s t x =>
    show (kO (fOpd x h.g e) fun x => fConv x h P s t fun v => k v h d) = _
    rw [fOpd_eq]
    refine kO_k1 rec h d k _ _ (fun x => ?_) _
    rw [fConv_eq]
    exact kO_ofV rec h d k _
  case extract t i =>
    show (kO (fOpd t h.g e) fun t => fExt t i fun v => k v h d) = _
    rw [fOpd_eq]
    refine kO_k1 rec h d k _ _ (fun t => ?_) _
    rw [fExt_eq]
    cases t <;> try rfl
    exact kO_ofV rec h d k _
  case fieldAddr t x f =>
    show (kO (fOpd x h.g e) fun x => fFA x P t f fun v => k v h d) = _
    rw [fOpd_eq]
    refine kO_k1 rec h d k _ _ (fun x => ?_) _
    rw [fFA_eq]
    refine kOR_o3 rec h d k _ (fun g b q => ?_) (fun g b q => ?_)
    · unfold aFieldAddr aFieldAddr2 at q; repeat' split at q
      all_goals cases q
    · unfold aFieldAddr aFieldAddr2 at q; repeat' split at q
      all_goals cases q
  case indexAddr t x i =>
    show (kO (fOpd x h.g e) fun x => kO (fOpd i h.g e) fun i => fIA x i P t fun v => k v h d) = _
    rw [fOpd_eq, fOpd_eq]
    refine kO_k2 rec h d k _ _ (fun x i => ?_) _ _
    rw [fIA_eq]
    exact kO_ofV rec h d k _
  case call c =>
    show (fOpds c.args.toList h.g e fun args => fCallee c.callee c.argTypes.toList ty args P rec e h d k) = kO3 (o3 rec h d (aCall P e h ty c (opds h.g e c.args.toList))) k
    rw [fOpds_eq]
    cases opds h.g e c.args.toList with
    | none => rfl
    | some args =>
      show fCallee c.callee c.argTypes.toList ty args P rec e h d k = kO3 (o3 rec h d (aCall2 P c.argTypes.toList ty h args c.callee (opd h.g e))) k
      cases c.callee with
      | builtin b =>
        show fBI b c.argTypes.toList ty args P h d k = _
        rw [fBI_eq]
        exact kOR_o3 rec h d k _ onlyV_nc.1 onlyV_nc.2
      | value f =>
        show (kO (fOpd f h.g e) fun f => kRet (rec (.call f args h)) d k) = _
        rw [fOpd_eq]
        refine kO_k1 rec h d k (fun f => .call f args) _ (fun f => ?_) _
        show _ = kO3 (o3Call d (rec (.call f args h))) k
        cases rec (.call f args h) <;> rfl
      | invoke a b => rfl


/-! Calls of functions. -/
noncomputable def fKey1 : AV → AV → Bool :=
  AV.rec (motive_1 := fun _ => AV → Bool) (motive_2 := fun _ => PUnit)
    (fun f0 => fun y => eqAV (.bool f0) y)
    (fun f0 f1 => fun y => eqAV (.int f0 f1) y)
    (fun n v => fun y => AV.rec (motive_1 := fun _ => Nat → Nat → Bool) (motive_2 := fun _ => PUnit) (fun _ => fun _ _ => false) (fun _ _ => fun _ _ => false) (fun m w => fun n v => Bool.rec (motive := fun _ => Bool) false (Nat.beq v w) (Nat.beq n m)) (fun _ _ => fun _ _ => false) (fun _ _ => false) (fun _ _ _ _ _ => fun _ _ => false) (fun _ _ => false) (fun _ => fun _ _ => false) (fun _ _ => false) (fun _ _ _ _ _ => fun _ _ => false) (fun _ _ => false) (fun _ _ _ => fun _ _ => false) (fun _ _ => false) (fun _ _ => fun _ _ => false) (fun _ _ => fun _ _ => false) (fun _ _ _ _ => fun _ _ => false) PUnit.unit (fun _ _ _ _ => PUnit.unit) y n v)
    (fun f0 f1 => fun y => eqAV (.ptr f0 f1) y)
    (fun y => eqAV (.nilp) y)
    (fun f0 f1 f2 f3 f4 => fun y => eqAV (.sl f0 f1 f2 f3 f4) y)
    (fun y => eqAV (.nils) y)
    (fun f0 => fun y => eqAV (.map f0) y)
    (fun y => eqAV (.nilm) y)
    (fun f0 f1 f2 _ _ => fun y => eqAV (.fn f0 f1 f2) y)
    (fun y => eqAV (.nilf) y)
    (fun f0 f1 _ => fun y => eqAV (.iface f0 f1) y)
    (fun y => eqAV (.nili) y)
    (fun f0 _ => fun y => eqAV (.agg f0) y)
    (fun f0 _ => fun y => eqAV (.tup f0) y)
    (fun f0 f1 f2 f3 => fun y => eqAV (.cls f0 f1 f2 f3) y)
    PUnit.unit (fun _ _ _ _ => PUnit.unit)
theorem fKey1_eq (x y : AV) : fKey1 x y = eqAV x y := by
  cases x <;> try rfl
  cases y <;> try rfl
  rename_i n v m w
  show Bool.rec (motive := fun _ => Bool) false (Nat.beq v w) (Nat.beq n m) = (Nat.beq n m && Nat.beq v w)
  cases Nat.beq n m <;> rfl
noncomputable def fKey : List AV → List AV → Bool :=
  List.rec (motive := fun _ => List AV → Bool) (fun l => eqAVs [] l) (fun x _ ih l => List.rec (motive := fun _ => Bool) false (fun y m _ => Bool.rec (motive := fun _ => Bool) false (ih m) (fKey1 x y)) l)
theorem fKey_eq : ∀ (l m : List AV), fKey l m = eqAVs l m
  | [], _ => rfl
  | _ :: _, [] => rfl
  | x :: l, y :: m => by
    show Bool.rec (motive := fun _ => Bool) false (fKey l m) (fKey1 x y) = (eqAV x y && eqAVs l m)
    rw [fKey1_eq, fKey_eq l m]
    cases eqAV x y <;> rfl
noncomputable def fLook2 (args : List AV) (o : Out) (h : Hp) (l : List (List AV × AV)) : Out :=
  List.rec (motive := fun _ => Out) o (fun x _ ih => Bool.rec (motive := fun _ => Out) ih (.ret x.2 h) (fKey x.1 args)) l
noncomputable def fLook (g : Nat) (args : List AV) (o : Out) (h : Hp) (tb : Tb) : Out :=
  List.rec (motive := fun _ => Out) o (fun x _ ih => Bool.rec (motive := fun _ => Out) ih (fLook2 args o h x.2) (Nat.beq x.1 g)) tb
theorem fLook2_eq (args : List AV) (o : Out) (h : Hp) : ∀ (l : List (List AV × AV)), fLook2 args o h l = memo2 h o (look2 args l)
  | [] => rfl
  | x :: l => by
    show Bool.rec (motive := fun _ => Out) (fLook2 args o h l) (.ret x.2 h) (fKey x.1 args) = memo2 h o (bif eqAVs x.1 args then some x.2 else look2 args l)
    rw [fKey_eq, fLook2_eq args o h l]
    cases eqAVs x.1 args <;> rfl
theorem fLook_eq (g : Nat) (args : List AV) (o : Out) (h : Hp) : ∀ (tb : Tb), fLook g args o h tb = memo2 h o (look tb g args)
  | [] => rfl
  | x :: l => by
    show Bool.rec (motive := fun _ => Out) (fLook g args o h l) (fLook2 args o h x.2) (Nat.beq x.1 g) = memo2 h o (bif Nat.beq x.1 g then look2 args x.2 else look l g args)
    rw [fLook2_eq, fLook_eq g args o h l]
    cases Nat.beq x.1 g <;> rfl

noncomputable def fResA : List ResultVar → Program → Env → Hp → (List AV → Out) → Out :=
  List.rec (motive := fun _ => Program → Env → Hp → (List AV → Out) → Out) (fun _ _ _ k => k [])
    (fun r _ ih P e h k => ResultVar.rec (motive := fun _ => Out) (fun t => kO (getF 11 e t) fun v => ih P e h fun r => k (v :: r)) (fun a t => kO (getF 11 e a) fun a => fLoad a P t h fun v => ih P e h fun r => k (v :: r)) r)
theorem fResA_eq (P : Program) (e : Env) (h : Hp) : ∀ (l : List ResultVar) (k : List AV → Out), fResA l P e h k = kL' (resA P e h l) k
  | [], _ => rfl
  | .tmp t :: l, k => by
    show (kO (getF 11 e t) fun v => fResA l P e h fun r => k (v :: r)) = kL' (match Env.get e t, resA P e h l with | some v, some r => some (v :: r) | _, _ => none) k
    show (kO (Env.get e t) fun v => fResA l P e h fun r => k (v :: r)) = _
    cases Env.get e t with
    | none => rfl
    | some v =>
      show (fResA l P e h fun r => k (v :: r)) = _
      rw [fResA_eq P e h l]
      cases resA P e h l <;> rfl
  | .cell a t :: l, k => by
    show (kO (getF 11 e a) fun a => fLoad a P t h fun v => fResA l P e h fun r => k (v :: r)) = kL' (match Env.get e a with | some a => (match load P t h a, resA P e h l with | some v, some r => some (v :: r) | _, _ => none) | none => none) k
    show (kO (Env.get e a) fun a => fLoad a P t h fun v => fResA l P e h fun r => k (v :: r)) = _
    cases Env.get e a with
    | none => rfl
    | some a =>
      show (fLoad a P t h fun v => fResA l P e h fun r => k (v :: r)) = _
      rw [fLoad_eq]
      simp only []
      cases load P t h a with
      | none => rfl
      | some v =>
        show (fResA l P e h fun r => k (v :: r)) = _
        rw [fResA_eq P e h l]
        cases resA P e h l <;> rfl
noncomputable def fRes (h : Hp) : List AV → Out :=
  List.rec (motive := fun _ => Out) (.ret (.tup []) h) (fun v l _ => List.rec (motive := fun _ => Out) (.ret v h) (fun b l2 _ => .ret (.tup (v :: b :: l2)) h) l)
theorem fRes_eq (h : Hp) (l : List AV) : fRes h l = evRes h (some l) := by
  match l with
  | [] => rfl
  | [v] => rfl
  | v :: b :: l => rfl
noncomputable def fEnd2 : List AD → Func → Program → (Req → Out) → Env → Hp → Out :=
  List.rec (motive := fun _ => Func → Program → (Req → Out) → Env → Hp → Out) (fun fn P _ e h => fResA fn.results.toList P e h fun l => fRes h l) (fun a d _ fn P rec e h => evEnd2 P fn e (runD rec (a :: d) h))
noncomputable def fEnd : Out → Func → Program → (Req → Out) → Out :=
  Out.rec (motive := fun _ => Func → Program → (Req → Out) → Out) (fun x e h d fn P rec => Ex.rec (motive := fun _ => Out) (fEnd2 d fn P rec e h) (fun _ => .no) (fEnd2 d fn P rec e h) x) (fun _ _ _ _ _ => .no) (fun _ _ _ => .no)
theorem fEnd2_eq (d : List AD) (fn : Func) (P : Program) (rec : Req → Out) (e : Env) (h : Hp) : fEnd2 d fn P rec e h = evEnd2 P fn e (runD rec d h) := by
  cases d with
  | cons a d => rfl
  | nil =>
    show (fResA fn.results.toList P e h fun l => fRes h l) = evRes h (resA P e h fn.results.toList)
    rw [fResA_eq]
    cases resA P e h fn.results.toList with
    | none => rfl
    | some l => exact fRes_eq h l
theorem fEnd_eq (o : Out) (fn : Func) (P : Program) (rec : Req → Out) : fEnd o fn P rec = evEnd P rec fn o := by
  cases o <;> try rfl
  rename_i x e h d
  cases x
  · exact fEnd2_eq ..
  · rfl
  · exact fEnd2_eq ..
noncomputable def fFunc2 : Option Code → Func → Program → (Req → Out) → List AV → Hp → Out :=
  Option.rec (motive := fun _ => Func → Program → (Req → Out) → List AV → Hp → Out) (fun fn P _ args h => evExt (externA P fn h args)) (fun c fn P rec args h => fEnd (rec (.code c (env0 args 0 .lf) h [] false)) fn P rec)
noncomputable def fFunc : Option Func → Program → (Req → Out) → List AV → Hp → Out :=
  Option.rec (motive := fun _ => Program → (Req → Out) → List AV → Hp → Out) (fun _ _ _ _ => .no) (fun fn P rec args h => fFunc2 fn.body fn P rec args h)
theorem fFunc_eq (o : Option Func) (P : Program) (rec : Req → Out) (args : List AV) (h : Hp) : fFunc o P rec args h = evFunc P rec args h o := by
  cases o with
  | none => rfl
  | some fn =>
    show fFunc2 fn.body fn P rec args h = evFunc2 P rec args h fn fn.body
    cases fn.body with
    | none => rfl
    | some c => exact fEnd_eq ..
noncomputable def fApp : List AV → List AV → List AV := List.rec (motive := fun _ => List AV → List AV) (fun m => m) (fun a _ ih m => a :: ih m)
theorem fApp_eq : ∀ (l m : List AV), fApp l m = l ++ m
  | [], _ => rfl
  | a :: l, m => by show a :: fApp l m = _; rw [fApp_eq l m]; rfl
noncomputable def fFn : Fn → List AV → List AV → Program → Tb → (Req → Out) → List AV → Hp → Out :=
  Fn.rec (motive := fun _ => List AV → List AV → Program → Tb → (Req → Out) → List AV → Hp → Out)
    (fun g a c P tb rec args h => List.rec (motive := fun _ => Out)
      (List.rec (motive := fun _ => Out) (fLook g args (fFunc P.funcs[g]? P rec args h) h tb) (fun x c _ => fFunc P.funcs[g]? P rec (fApp args (x :: c)) h) c)
      (fun x a _ => fFunc P.funcs[g]? P rec (fApp (x :: a) (fApp args c)) h) a)
    (fun _ _ _ _ _ _ _ _ => .no) (fun _ _ _ _ _ _ _ _ _ => .no) (fun _ _ _ _ _ _ _ _ _ _ _ => .no)
    (fun l a c P _ rec args h => evCall P rec args h (.fn (.yield l) a c))
noncomputable def fCallF : AV → Program → Tb → (Req → Out) → List AV → Hp → Out :=
  AV.rec (motive_1 := fun _ => Program → Tb → (Req → Out) → List AV → Hp → Out) (motive_2 := fun _ => PUnit)
    (fun _ => fun _ _ _ _ _ => .no)
    (fun _ _ => fun _ _ _ _ _ => .no)
    (fun _ _ => fun _ _ _ _ _ => .no)
    (fun _ _ => fun _ _ _ _ _ => .no)
    (fun _ _ _ _ _ => .no)
    (fun _ _ _ _ _ => fun _ _ _ _ _ => .no)
    (fun _ _ _ _ _ => .no)
    (fun _ => fun _ _ _ _ _ => .no)
    (fun _ _ _ _ _ => .no)
    (fun f a c _ _ => fun P tb rec args h => fFn f a c P tb rec args h)
    (fun _ _ _ _ _ => .no)
    (fun _ _ _ => fun _ _ _ _ _ => .no)
    (fun _ _ _ _ _ => .no)
    (fun _ _ => fun _ _ _ _ _ => .no)
    (fun _ _ => fun _ _ _ _ _ => .no)
    (fun _ _ _ _ => fun _ _ _ _ _ => .no)
    PUnit.unit (fun _ _ _ _ => PUnit.unit)
theorem fCallF_eq (f : AV) (P : Program) (tb : Tb) (rec : Req → Out) (args : List AV) (h : Hp) : fCallF f P tb rec args h = memoCall P tb rec args h f := by
  cases f <;> try rfl
  rename_i fn a c
  cases fn with
  | yield l => rfl
  | method l => rfl
  | methodOf l m => rfl
  | via a b c d => rfl
  | func g =>
    cases a with
    | cons x a =>
      show fFunc P.funcs[g]? P rec (fApp (x :: a) (fApp args c)) h = evFunc P rec ((x :: a) ++ (args ++ c)) h P.funcs[g]?
      rw [fFunc_eq, fApp_eq, fApp_eq]
    | nil =>
      cases c with
      | cons x c =>
        show fFunc P.funcs[g]? P rec (fApp args (x :: c)) h = evFunc P rec ([] ++ (args ++ (x :: c))) h P.funcs[g]?
        rw [fFunc_eq, fApp_eq]
        rfl
      | nil =>
        show fLook g args (fFunc P.funcs[g]? P rec args h) h tb = memo2 h (evFunc P rec ([] ++ (args ++ [])) h P.funcs[g]?) (look tb g args)
        rw [fLook_eq, fFunc_eq, List.append_nil, List.nil_append]


/-! Rows of operations, code. -/
noncomputable def fSel : Option Bool → Out → Out → Out := Option.rec (motive := fun _ => Out → Out → Out) (fun _ _ => .no) (fun b x y => Bool.rec (motive := fun _ => Out) y x b)
noncomputable def fWant : Option (Nat × Bool) → List Oper → Env → Oper → Out → Out → Out :=
  Option.rec (motive := fun _ => List Oper → Env → Oper → Out → Out → Out) (fun _ _ _ x _ => x) (fun _ ops e o x y => fSel (wantA ops e o) x y)
noncomputable def fOps (P : Program) (rec : Req → Out) (ops : List Oper) (l : List Oper) : Cont :=
  List.rec (motive := fun _ => Cont) (fun e h d => .done .normal e h d)
    (fun o _ ih e h d => fWant o.guard ops e o (fOp o.op o.type P rec e h d fun v h d => ih (fPut o.dst e v) h d) (ih (fPut o.dst e (.tup [])) h d)) l
theorem fWant_eq (ops : List Oper) (e : Env) (o : Oper) (x y : Out) : fWant o.guard ops e o x y = fSel (wantA ops e o) x y := by
  cases hg : o.guard with
  | none =>
    show x = _
    unfold wantA
    rw [hg]
    rfl
  | some jw => rfl
theorem fOps_eq (P : Program) (rec : Req → Out) (ops : List Oper) : ∀ (l : List Oper) (e : Env) (h : Hp) (d : List AD), fOps P rec ops l e h d = evOps P rec ops l e h d
  | [], _, _, _ => rfl
  | o :: l, e, h, d => by
    show fWant o.guard ops e o (fOp o.op o.type P rec e h d fun v h d => fOps P rec ops l (fPut o.dst e v) h d) (fOps P rec ops l (fPut o.dst e (.tup [])) h d) = evOp P rec e h d o (evOps P rec ops l) (wantA ops e o)
    rw [fWant_eq, fOp_eq]
    cases wantA ops e o with
    | none => rfl
    | some b =>
      cases b with
      | false =>
        show fOps P rec ops l (fPut o.dst e (.tup [])) h d = evOps P rec ops l (Env.put e o.dst (.tup [])) h d
        rw [fPut_eq, fOps_eq P rec ops l]
      | true =>
        show kO3 (o3 rec h d (aop P e h o)) _ = evK e o.dst (evOps P rec ops l) (o3 rec h d (aop P e h o))
        cases o3 rec h d (aop P e h o) with
        | is v h d =>
          show fOps P rec ops l (fPut o.dst e v) h d = evOps P rec ops l (Env.put e o.dst v) h d
          rw [fPut_eq, fOps_eq P rec ops l]
        | no => rfl

noncomputable def fSeq : Out → (Req → Out) → Code → Bool → Out :=
  Out.rec (motive := fun _ => (Req → Out) → Code → Bool → Out) (fun x e h d rec b r => Ex.rec (motive := fun _ => Out) (rec (.code b e h d r)) (fun id => .done (.exit id) e h d) (.done .ret e h d) x) (fun v h _ _ _ => .ret v h) (fun _ _ _ => .no)
theorem fSeq_eq (o : Out) (rec : Req → Out) (b : Code) (r : Bool) : fSeq o rec b r = evSeq rec b r o := by
  cases o <;> try rfl
  rename_i x e h d
  cases x <;> rfl
noncomputable def fCond : AV → (Req → Out) → Code → Code → Env → Hp → List AD → Bool → Out :=
  AV.rec (motive_1 := fun _ => (Req → Out) → Code → Code → Env → Hp → List AD → Bool → Out) (motive_2 := fun _ => PUnit)
    (fun c => fun rec a b e h d r => rec (.code (Bool.rec (motive := fun _ => Code) b a c) e h d r))
    (fun _ _ => fun _ _ _ _ _ _ _ => .no)
    (fun _ _ => fun _ _ _ _ _ _ _ => .no)
    (fun _ _ => fun _ _ _ _ _ _ _ => .no)
    (fun _ _ _ _ _ _ _ => .no)
    (fun _ _ _ _ _ => fun _ _ _ _ _ _ _ => .no)
    (fun _ _ _ _ _ _ _ => .no)
    (fun _ => fun _ _ _ _ _ _ _ => .no)
    (fun _ _ _ _ _ _ _ => .no)
    (fun _ _ _ _ _ => fun _ _ _ _ _ _ _ => .no)
    (fun _ _ _ _ _ _ _ => .no)
    (fun _ _ _ => fun _ _ _ _ _ _ _ => .no)
    (fun _ _ _ _ _ _ _ => .no)
    (fun _ _ => fun _ _ _ _ _ _ _ => .no)
    (fun _ _ => fun _ _ _ _ _ _ _ => .no)
    (fun _ _ _ _ => fun _ _ _ _ _ _ _ => .no)
    PUnit.unit (fun _ _ _ _ => PUnit.unit)
noncomputable def fBlock : Out → Nat → Out :=
  Out.rec (motive := fun _ => Nat → Out) (fun x e h d id => Ex.rec (motive := fun _ => Out) (.done .normal e h d) (fun j => .done (Bool.rec (motive := fun _ => Ex) (.exit j) .normal (Nat.beq j id)) e h d) (.done .ret e h d) x) (fun v h _ => .ret v h) (fun _ => .no)
theorem fBlock_eq (o : Out) (id : Nat) : fBlock o id = evBlock id o := by
  cases o <;> try rfl
  rename_i x e h d
  cases x <;> try rfl
  rename_i j
  show Out.done (Bool.rec (motive := fun _ => Ex) (.exit j) .normal (Nat.beq j id)) e h d = .done (bif Nat.beq j id then .normal else .exit j) e h d
  cases Nat.beq j id <;> rfl
noncomputable def fCode : Code → Program → (Req → Out) → Env → Hp → List AD → Bool → Out :=
  Code.rec (motive := fun _ => Program → (Req → Out) → Env → Hp → List AD → Bool → Out)
    (fun _ _ e h d _ => .done .normal e h d)
    (fun _ ops draw P rec e h d _ => Bool.rec (motive := fun _ => Out) (fOps P rec ops.toList ops.toList e h d) (evDr P rec ops.toList e h d (planOf ops.toList)) draw)
    (fun a b _ _ _ rec e h d r => fSeq (rec (.code a e h d r)) rec b r)
    (fun c a b _ _ _ rec e h d r => kO (fOpd c h.g e) fun v => fCond v rec a b e h d r)
    (fun id a _ _ rec e h d r => fBlock (rec (.code a e h d r)) id)
    (fun a _ _ rec e h d r => fSeq (rec (.code a e h d r)) rec (.loop a) r)
    (fun f ps asg body _ _ _ rec e h d r => evRF rec e h d r ps.toList asg body (opd h.g e f))
    (fun id _ _ e h d _ => .done (.exit id) e h d)
    (fun a _ _ rec e h d r => rec (.code a e h d r))
    (fun _ _ _ e h d _ => .done .normal e h d)
    (fun _ _ _ _ _ _ _ => .no)
    (fun _ _ e h d _ => .done .ret e h d)
    (fun _ _ _ _ _ _ _ => .no)
theorem fCode_eq (c : Code) (P : Program) (rec : Req → Out) (e : Env) (h : Hp) (d : List AD) (r : Bool) : fCode c P rec e h d r = evCode P rec e h d r c := by
  cases c <;> try rfl
  case region id ops draw =>
    cases draw with
    | false => exact fOps_eq P rec _ _ e h d
    | true => rfl
  case seq a b => exact fSeq_eq ..
  case loop a => exact fSeq_eq ..
  case block id a => exact fBlock_eq ..
  case cond c a b =>
    show (kO (fOpd c h.g e) fun v => fCond v rec a b e h d r) = evCond rec a b e h d r (opd h.g e c)
    rw [fOpd_eq]
    cases opd h.g e c with
    | none => rfl
    | some v =>
      cases v <;> try rfl
      rename_i q
      cases q <;> rfl

noncomputable def fStep (P : Program) (tb : Tb) (rec : Req → Out) : Req → Out :=
  Req.rec (motive := fun _ => Out) (fun c e h d r => fCode c P rec e h d r) (fun f args h => fCallF f P tb rec args h)
noncomputable def evF (P : Program) (tb : Tb) (n : Nat) : Req → Out :=
  Nat.rec (motive := fun _ => Req → Out) (fun _ => .no) (fun _ ih => fStep P tb ih) n
/-- It is the same evaluator. -/
theorem evF_eq (P : Program) (tb : Tb) : ∀ n, evF P tb n = evM P tb n
  | 0 => rfl
  | n + 1 => by
    funext q
    show fStep P tb (evF P tb n) q = evStepM P tb (evM P tb n) q
    rw [evF_eq P tb n]
    cases q with
    | code c e h d r => exact fCode_eq ..
    | call f args h => exact fCallF_eq ..

theorem pure_evF {hG : Hp} (hr : RoHp hG) {P : Program} {tb : Tb} (hP : ProgOk (laidOf hG) P) (ht : TbOk (laidOf hG) P tb) {g : Nat} {args : List AV} {v : AV} (n : Nat) (ha : flatL args = true) (hv : flatA v = true) (he : isV v (evF P tb n (.call (.fn (.func g) [] []) args hG)) = true) : Pure (laidOf hG) P g args v :=
  pure_ev hr hP ht n ha hv (by rw [← evF_eq]; exact he)

end Go.Ev
