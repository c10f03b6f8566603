/- The evaluator: a big-step run of the model's code over abstract blocks. -/
import Derived.Test.YtibpgelajmoefaaGreatDoorEv0
import GoSem.Core.Region
namespace Go.Ev

/-- Where a round's body leaves for. -/
inductive Ex where
  | normal
  | exit (id : Nat)
  | ret
  deriving Inhabited

abbrev Env := Tr AV

/-- Blocks. -/
inductive AO where
  | cells (l : List AV) (e : TypeId) (ro z : Bool)
  | dead
  | map (es : List (AV × AV × Nat)) (clock : Nat)
  | iter (n v pos : Nat)
  | loop (st : Nat) (pend : Ex) (env : Env) (ps : List Tmp) (asg body : Code)
  | deferred
  deriving Inhabited

structure Hp where
  t : Tr AO
  next : Nat
  g : Nat

noncomputable def Hp.get (h : Hp) (b : Nat) : Option AO := getF 22 h.t b
noncomputable def Hp.set (h : Hp) (b : Nat) (o : AO) : Hp := ⟨setF 22 h.t b o, h.next, h.g⟩
noncomputable def Hp.new (h : Hp) (o : AO) : Hp := ⟨setF 22 h.t h.next o, Nat.succ h.next, h.g⟩
noncomputable def Hp.bump (h : Hp) : Hp := ⟨h.t, Nat.succ h.next, h.g⟩
noncomputable def Env.get (e : Env) (t : Nat) : Option AV := getF 11 e t
noncomputable def Env.put (e : Env) (d : Option Tmp) (v : AV) : Env := Option.casesOn d e fun d => setF 11 e d v

/-- Bytes as one number, the first one lowest. -/
def bn : List UInt8 → Nat
  | [] => 0
  | b :: l => b.toNat + 256 * bn l

def cv0 : Value → Option AV
  | .bool b => some (.bool b)
  | .int k n => some (.int k n)
  | .string s => some (.str s.data.toList.length (bn s.data.toList))
  | .pointer none => some .nilp
  | .slice none 0 0 => some .nils
  | .map none => some .nilm
  | .func (.func f) ⟨[]⟩ ⟨[]⟩ => some (.fn (.func f) [] [])
  | .nilFunc => some .nilf
  | .nilIface => some .nili
  | _ => none

/-- All, if all are there. -/
def seqL {α : Type} : List (Option α) → Option (List α)
  | [] => some []
  | none :: _ => none
  | some a :: l => match seqL l with
    | some r => some (a :: r)
    | none => none

def cv (v : Value) : Option AV :=
  match v with
  | .agg cs => match seqL (cs.toList.map cv0) with
    | some l => some (.agg l)
    | none => none
  | .tuple ⟨[]⟩ => some (.tup [])
  | v => cv0 v

noncomputable def opd (N : Nat) (e : Env) : Operand → Option AV
  | .tmp t => Env.get e t
  | .const v => cv v
  | .global g => bif Nat.blt g N then some (.ptr g 0) else none
  | .func f => some (.fn (.func f) [] [])

/-- The cells that a value takes; a tuple takes none. -/
def AV.cells : AV → Option (List AV)
  | .agg l => some l
  | .tup _ => none
  | v => some [v]

def isAggT (P : Program) (t : TypeId) : Option Bool :=
  match P.underlying t with
  | some (.struct _) | some (.array _ _) => some true
  | some _ => some false
  | none => none

def szT (P : Program) (t : TypeId) : Option Nat := match P.info? t with
  | some i => some i.size
  | none => none

def byT (P : Program) (t : TypeId) : Option Nat := match P.info? t with
  | some i => some i.bytes
  | none => none

/-- The zero value's cells. -/
def zT (P : Program) (t : TypeId) : Option AV := match P.info? t with
  | some i => match i.zero with
    | some z => cv z
    | none => none
  | none => none

/-- A part of a row: n cells from o on. -/
def cut {α : Type} (l : List α) (o n : Nat) : Option (List α) :=
  let r := (l.drop o).take n
  bif Nat.beq r.length n then some r else none

/-- A row with other cells from o on. -/
def lay {α : Type} (l : List α) (o : Nat) (vs : List α) : Option (List α) :=
  bif Nat.ble (o + vs.length) l.length then some (l.take o ++ (vs ++ l.drop (o + vs.length))) else none

def loadC (P : Program) (t : TypeId) (l : List AV) (o : Nat) : Option AV :=
  match isAggT P t with
  | some true => match szT P t with
    | some n => match cut l o n with
      | some r => some (.agg r)
      | none => none
    | none => none
  | some false => match l.drop o with
    | v :: _ => some v
    | [] => none
  | none => none

noncomputable def load (P : Program) (t : TypeId) (h : Hp) : AV → Option AV
  | .ptr b o => match h.get b with
    | some (.cells l _ _ _) => loadC P t l o
    | _ => none
  | _ => none

noncomputable def store (P : Program) (t : TypeId) (h : Hp) (a v : AV) : Option Hp :=
  match a with
  | .ptr b o => match h.get b with
    | some (.cells l e false z) => match szT P t with
      | some n => (match v.cells with
        | some vs => bif Nat.beq n vs.length && Nat.blt 0 n then (match lay l o vs with
          | some l' => some (h.set b (.cells l' e false z))
          | none => none) else none
        | none => none)
      | none => none
    | _ => none
  | _ => none

/-- Ints without looking at proofs. -/
def ltI : Int → Int → Bool
  | .ofNat a, .ofNat b => Nat.blt a b
  | .ofNat _, .negSucc _ => false
  | .negSucc _, .ofNat _ => true
  | .negSucc a, .negSucc b => Nat.blt b a
def eqI : Int → Int → Bool
  | .ofNat a, .ofNat b => Nat.beq a b
  | .negSucc a, .negSucc b => Nat.beq a b
  | _, _ => false
def eqK (j k : IntKind) : Bool := Nat.beq j.ctorIdx k.ctorIdx

def topOf : IntKind → Nat
  | .i8 => 128 | .i16 => 32768 | .i32 => 2147483648 | .i64 => 9223372036854775808
  | .u8 => 256 | .u16 => 65536 | .u32 => 4294967296 | .u64 => 18446744073709551616
def wr (k : IntKind) (n : Int) : Int :=
  match n with
  | .ofNat a => bif Nat.blt a (topOf k) then .ofNat a else k.wrap (.ofNat a)
  | .negSucc a => bif k.signed && Nat.blt a (topOf k) then .negSucc a else k.wrap (.negSucc a)

/-- One byte of a string. -/
def byteAt (v i : Nat) : Nat := Nat.land (Nat.shiftRight v (8 * i)) 255
def subS (v a b : Nat) : Nat := Nat.mod (Nat.shiftRight v (8 * a)) (Nat.pow 2 (8 * (b - a)))
def catS (n v w : Nat) : Nat := Nat.add v (Nat.shiftLeft w (8 * n))
def bytesOfS : Nat → Nat → List AV
  | 0, _ => []
  | n + 1, v => .int .u8 (Int.ofNat (Nat.land v 255)) :: bytesOfS n (Nat.shiftRight v 8)

def natI : AV → Option Nat
  | .int _ (.ofNat n) => some n
  | _ => none

/-- Parts laid over a row of zeros. -/
def fillL (place : Nat → Option (Nat × Nat)) : List AV → List (Nat × AV) → Option (List AV)
  | l, [] => some l
  | l, (i, v) :: rest => match place i with
    | some (o, s) => (match v.cells with
      | some vs => bif Nat.beq vs.length s then (match lay l o vs with
        | some l' => fillL place l' rest
        | none => none) else none
      | none => none)
    | none => none

def repL {α : Type} (z : List α) : Nat → List α
  | 0 => []
  | n + 1 => z ++ repL z n

noncomputable def opParts (N : Nat) (e : Env) : List (Nat × Operand) → Option (List (Nat × AV))
  | [] => some []
  | (i, x) :: l => match opd N e x with
    | some v => (match opParts N e l with
      | some r => some ((i, v) :: r)
      | none => none)
    | none => none

noncomputable def opds (N : Nat) (e : Env) : List Operand → Option (List AV)
  | [] => some []
  | x :: l => match opd N e x with
    | some v => (match opds N e l with
      | some r => some (v :: r)
      | none => none)
    | none => none

def fieldL (fs : List Field) (f : Nat) : Option Field := fs[f]?

def eqF1 (rest : Option Bool) : Option Bool → Option Bool
  | some true => rest
  | some false => some false
  | none => none
/-- '==' field by field. -/
def eqFs (P : Program) (eq : TypeId → AV → AV → Option Bool) (xs ys : List AV) : List Field → Option Bool
  | [] => some true
  | f :: fs => bif f.name == "_" then none else (match loadC P f.type xs f.offset, loadC P f.type ys f.offset with
    | some a, some b => eqF1 (eqFs P eq xs ys fs) (eq f.type a b)
    | _, _ => none)

/-- '==' of two values, as the type says. -/
def eqA (P : Program) : Nat → TypeId → AV → AV → Option Bool
  | 0, _, _, _ => none
  | d + 1, t, x, y => match P.underlying t with
    | some .bool => match x, y with
      | .bool a, .bool b => some (a == b)
      | _, _ => none
    | some (.int _) => match x, y with
      | .int k a, .int j b => bif eqK k j then some (eqI a b) else none
      | _, _ => none
    | some .string => match x, y with
      | .str n a, .str m b => some (Nat.beq n m && Nat.beq a b)
      | _, _ => none
    | some (.pointer el) => match x, y with
      | .nilp, .nilp => some true
      | .nilp, .ptr _ _ => some false
      | .ptr _ _, .nilp => some false
      | .ptr b o, .ptr c p => bif Nat.beq b c then (match szT P el with
        | some (_ + 1) => some (Nat.beq o p)
        | _ => none) else none
      | _, _ => none
    | some (.interface _) => match x, y with
      | .nili, .nili => some true
      | .nili, .iface _ _ => some false
      | .iface _ _, .nili => some false
      | _, _ => none
    | some (.slice _) => match x, y with
      | .nils, .nils => some true
      | .nils, .sl _ _ _ _ _ => some false
      | .sl _ _ _ _ _, .nils => some false
      | _, _ => none
    | some (.func _ _ _) => match x, y with
      | .nilf, .nilf => some true
      | .nilf, .fn _ _ _ => some false
      | .fn _ _ _, .nilf => some false
      | _, _ => none
    | some (.struct fs) => match x, y with
      | .agg xs, .agg ys => bif P.stoodInHeld t then none else eqFs P (eqA P d) xs ys fs.toList
      | _, _ => none
    | _ => none

def cmpI (op : BinOp) (a b : Int) : Option Bool :=
  match op with
  | .eql => some (eqI a b)
  | .neq => some (!eqI a b)
  | .lss => some (ltI a b)
  | .leq => some (!ltI b a)
  | .gtr => some (ltI b a)
  | .geq => some (!ltI a b)
  | _ => none

def arI (op : BinOp) (k : IntKind) (a b : Int) : Option Int :=
  match op with
  | .add => some (wr k (a + b))
  | .sub => some (wr k (a - b))
  | .mul => some (wr k (a * b))
  | .quo => bif eqI b 0 then none else some (wr k (a.tdiv b))
  | .rem => bif eqI b 0 then none else some (a.tmod b)
  | .and => match a, b with
    | .ofNat x, .ofNat y => some (wr k (.ofNat (Nat.land x y)))
    | _, _ => some (k.wrap (BitVec.ofInt k.bits a &&& BitVec.ofInt k.bits b).toNat)
  | .or => match a, b with
    | .ofNat x, .ofNat y => bif Nat.blt x (topOf k) && Nat.blt y (topOf k) then some (wr k (.ofNat (Nat.lor x y))) else none
    | _, _ => none
  | .xor => some (k.wrap (BitVec.ofInt k.bits a ^^^ BitVec.ofInt k.bits b).toNat)
  | .andNot => some (k.wrap (BitVec.ofInt k.bits a &&& ~~~ BitVec.ofInt k.bits b).toNat)
  | _ => none

def isConstO : Operand → Bool
  | .const _ => true
  | _ => false

def eqOp (P : Program) (t : TypeId) (xo yo : Operand) (x y : AV) : Option Bool :=
  match x, y with
  | .nili, .nili => bif isConstO xo || isConstO yo then eqA P 10000 t x y else none
  | .agg _, .agg _ => bif P.eqGuardType P.depth t then none else eqA P 10000 t x y
  | _, _ => eqA P 10000 t x y

def binA (P : Program) (op : BinOp) (t : TypeId) (xo yo : Operand) (x y : AV) : Option AV :=
  match x, y with
  | .int k a, .int j b =>
    match op with
    | .shl => match b with
      | .ofNat n => some (.int k (wr k (a * 2 ^ (min n k.bits))))
      | _ => none
    | .shr => match b with
      | .ofNat n => some (.int k (a.fdiv (2 ^ (min n k.bits))))
      | _ => none
    | op => bif eqK k j then (match arI op k a b with
      | some c => some (.int k c)
      | none => match cmpI op a b with
        | some c => some (.bool c)
        | none => none) else none
  | .str n a, .str m b =>
    match op with
    | .add => bif Nat.ble (n + m) 9223372036854775807 then some (.str (n + m) (catS n a b)) else none
    | .eql => some (.bool (Nat.beq n m && Nat.beq a b))
    | .neq => some (.bool !(Nat.beq n m && Nat.beq a b))
    | _ => none
  | .cls k m r _, .int j (.ofNat d) =>
    match op with
    | .rem => bif eqK k j && Nat.blt 0 d && Nat.beq (Nat.mod m d) 0 then some (.int k (.ofNat (Nat.mod r d))) else none
    | _ => none
  | .cls _ _ _ _, _ => none
  | _, .cls _ _ _ _ => none
  | x, y =>
    match op with
    | .eql => match eqOp P t xo yo x y with
      | some c => some (.bool c)
      | none => none
    | .neq => match eqOp P t xo yo x y with
      | some c => some (.bool !c)
      | none => none
    | _ => none

def unA (op : UnOp) (x : AV) : Option AV :=
  match op, x with
  | .not, .bool b => some (.bool !b)
  | .neg, .int k n => some (.int k (wr k (0 - n)))
  | .xor, .int k n => some (.int k (k.wrap (BitVec.ofInt k.bits (if k.signed then -1 else k.max) ^^^ BitVec.ofInt k.bits n).toNat))
  | _, _ => none

noncomputable def convA (P : Program) (src dst : TypeId) (h : Hp) (x : AV) : Option AV :=
  match P.underlying src, P.underlying dst, x with
  | some _, some (.int k), .int _ n => some (.int k (wr k n))
  | some _, some (.int k), .cls _ m r b => bif Nat.ble b (topOf k) then some (.cls k m r b) else none
  | some .string, some .string, .str n v => some (.str n v)
  | some (.pointer t), some .unsafePointer, .ptr b o => match h.get b, szT P t with
    | some (.cells l _ _ _), some s => bif Nat.beq s 0 || Nat.ble l.length o then none else some (.ptr b o)
    | _, _ => none
  | some .unsafePointer, some (.pointer u), .ptr b o => match h.get b, szT P u with
    | some (.cells l e _ z), some _ => bif z && liesAt P P.depth e (l.length / P.cellsOf e) o u 1 then some (.ptr b o) else none
    | _, _ => none
  | _, _, _ => none

/-- A place by an index. -/
def indexAddrA (P : Program) (t : TypeId) (x i : AV) : Option AV :=
  match i with
  | .int _ (.ofNat i) => match P.underlying t, x with
    | some (.slice elem), .sl b o n e _ => match szT P elem with
      | some s => bif Nat.blt i n && Nat.beq s e then some (.ptr b (o + i * s)) else none
      | none => none
    | some (.array len elem), .ptr b o => match szT P elem with
      | some s => bif Nat.blt i len then some (.ptr b (o + i * s)) else none
      | none => none
    | _, _ => none
  | _ => none

def indexA (P : Program) (t : TypeId) (x i : AV) : Option AV :=
  match i with
  | .int _ (.ofNat i) => match P.underlying t, x with
    | some .string, .str n v => bif Nat.blt i n then some (.int .u8 (.ofNat (byteAt v i))) else none
    | some (.array len elem), .agg l => match szT P elem with
      | some s => bif Nat.blt i len then loadC P elem l (i * s) else none
      | none => none
    | _, _ => none
  | _ => none

def boundA (o : Option AV) (d : Nat) : Option Nat :=
  match o with
  | none => some d
  | some (.int _ (.ofNat n)) => some n
  | _ => none

def okMx : Option AV → Option AV → Bool
  | none, some _ => false
  | _, _ => true

def sliceA (P : Program) (t : TypeId) (x : AV) (lo hi mx : Option AV) : Option AV :=
  match P.underlying t, x with
  | some .string, .str n v => match mx with
    | some _ => none
    | none => match boundA lo 0, boundA hi n with
      | some l, some h => bif Nat.ble l h && Nat.ble h n then some (.str (h - l) (subS v l h)) else none
      | _, _ => none
  | some (.slice elem), .sl b o n e c => match szT P elem with
    | some s => bif Nat.beq s e && okMx hi mx then (match boundA lo 0, boundA hi n, boundA mx n with
      | some l, some h, some m => bif Nat.ble l h && Nat.ble h m && Nat.ble m n then
          some (.sl b (o + l * e) (h - l) e (match mx with
            | some _ => Nat.beq m h
            | none => c && Nat.beq h n)) else none
      | _, _, _ => none) else none
    | none => none
  | some (.slice elem), .nils => match szT P elem with
    | some _ => bif okMx hi mx then (match boundA lo 0, boundA hi 0, boundA mx 0 with
      | some 0, some 0, some 0 => some .nils
      | _, _, _ => none) else none
    | none => none
  | _, _ => none

def checkKeyA (P : Program) : Nat → TypeId → AV → Bool
  | 0, _, _ => false
  | n + 1, t, v => match P.underlying t, v with
    | some (.struct fs), .agg l => fs.toList.all fun f => (f.name == "_") || (match loadC P f.type l f.offset with
      | some x => checkKeyA P n f.type x
      | none => false)
    | some (.int _), .int _ _ => true
    | some .string, .str _ _ => true
    | some .bool, .bool _ => true
    | _, _ => false

def findA (P : Program) (t : TypeId) (k : AV) : List (AV × AV × Nat) → Nat → Option (Option (Nat × AV))
  | [], _ => some none
  | (k', v, _) :: es, i => match eqA P 10000 t k k' with
    | some true => some (some (i, v))
    | some false => findA P t k es (i + 1)
    | none => none

noncomputable def lookupA (P : Program) (t : TypeId) (h : Hp) (x k : AV) (ok : Bool) : Option AV :=
  match P.underlying t with
  | some (.map key elem) =>
    match (match x with
      | .nilm => some []
      | .map b => (match h.get b with
        | some (.map es _) => some es
        | _ => none)
      | _ => none : Option (List (AV × AV × Nat))) with
    | some es => bif checkKeyA P 10000 key k then (match findA P key k es 0 with
      | some (some (_, v)) => some (bif ok then .tup [v, .bool true] else v)
      | some none => (match zT P elem with
        | some z => some (bif ok then .tup [z, .bool false] else z)
        | none => none)
      | none => none) else none
    | none => none
  | _ => none

/-- The same key, bit by bit. -/
def sameS : AV → AV → Bool
  | .int k a, .int j b => eqK k j && eqI a b
  | .str n a, .str m b => Nat.beq n m && Nat.beq a b
  | .bool a, .bool b => a == b
  | _, _ => false
def sameL : List AV → List AV → Bool
  | [], [] => true
  | a :: l, b :: m => sameS a b && sameL l m
  | _, _ => false
def sameA : AV → AV → Bool
  | .agg l, .agg m => sameL l m
  | a, b => sameS a b
def keyAt (es : List (AV × AV × Nat)) (i : Nat) (k : AV) : Bool := match es[i]? with
  | some e => sameA e.1 k
  | none => false

noncomputable def updateA (P : Program) (t : TypeId) (h : Hp) (m k v : AV) : Option Hp :=
  match P.underlying t, m with
  | some (.map key _), .map b => match h.get b with
    | some (.map es clock) => bif checkKeyA P 10000 key k then (match findA P key k es 0 with
      | some (some (i, _)) => bif keyAt es i k then some (h.set b (.map (es.modify i fun e => (k, v, e.2.2)) clock)) else none
      | some none => some (h.set b (.map (es ++ [(k, v, clock)]) (clock + 1)))
      | none => none) else none
    | _ => none
  | _, _ => none

/-- The cells that are appended. -/
noncomputable def srcA (h : Hp) (e : Nat) : AV → Option (Nat × List AV)
  | .nils => some (0, [])
  | .str n v => bif Nat.beq e 1 then some (n, bytesOfS n v) else none
  | .sl b o n e' _ => bif Nat.beq n 0 then some (0, []) else match h.get b with
    | some (.cells l _ _ _) => bif Nat.beq e e' then (match cut l o (n * e) with
      | some r => some (n, r)
      | none => none) else none
    | _ => none
  | _ => none

/-- The cells of a made slice that is appended. -/
def srcZ (P : Program) (elem : TypeId) : AV → Option (Nat × List AV)
  | .int .i64 (.ofNat n) => bif Nat.ble n 1000000 then (match (zT P elem).bind AV.cells, szT P elem with
    | some z, some s => bif Nat.beq z.length s then some (n, repL z n) else none
    | _, _ => none) else none
  | _ => none

def isIntD : TypeDesc → Bool
  | .int _ => true
  | _ => false

noncomputable def app3 (h : Hp) (b o n e elem : Nat) (clip : Bool) (k : Nat) (new : List AV) : Option AO → Option (AV × Hp)
  | some (.cells l el ro z) => (match cut l o (n * e) with
    | some old => bif clip then some (.sl h.next 0 (n + k) e false, h.new (.cells (old ++ new) elem false true))
      else bif ro || !Nat.beq el elem then none else some (.sl h.next 0 (n + k) e false, (h.set b .dead).new (.cells (old ++ new) elem false (z && Nat.beq o 0)))
    | none => none)
  | _ => none

noncomputable def app2 (h : Hp) (elem size bytes k : Nat) (new : List AV) : AV → Option (AV × Hp)
  | .nils => bif Nat.ble ((2 * k + 192) * bytes) 281474976710656 then some (.sl h.next 0 k size false, h.new (.cells new elem false true)) else none
  | .sl b o n e clip => bif Nat.beq e size && Nat.ble ((2 * (n + k) + 192) * bytes) 281474976710656 then app3 h b o n e elem clip k new (h.get b) else none
  | _ => none

noncomputable def app1 (P : Program) (h : Hp) (elem : TypeId) (s : AV) : Option (Nat × List AV) → Option (AV × Hp)
  | some (0, _) => some (s, h)
  | some (k + 1, new) => (match szT P elem, byT P elem, (zT P elem).bind AV.cells with
    | some size, some bytes, some z => bif Nat.beq z.length size && Nat.blt 0 bytes then app2 h elem size bytes (k + 1) new s else none
    | _, _, _ => none)
  | none => none

noncomputable def app0 (P : Program) (h : Hp) (elem : TypeId) (s x : AV) : Bool → Option (AV × Hp)
  | true => app1 P h elem s (srcZ P elem x)
  | false => (match szT P elem with
    | some size => app1 P h elem s (srcA h size x)
    | none => none)

def isSl : AV → Bool
  | .sl _ _ _ _ _ => true
  | .nils => true
  | _ => false

noncomputable def appendA (P : Program) (ts : List TypeId) (h : Hp) (s x : AV) : Option (AV × Hp) :=
  match ts with
  | [st, xt] => (match P.underlying st, P.underlying xt with
    | some (.slice elem), some xd => bif isSl s then app0 P h elem s x (isIntD xd) else none
    | _, _ => none)
  | _ => none

/-- What an operation comes to. -/
inductive OR where
  | val (v : AV) (h : Hp)
  | skip (h : Hp)
  | call (f : AV) (args : List AV)
  | dfr (f : AV) (args : List AV)
  | no

noncomputable def OR.ofV (h : Hp) : Option AV → OR
  | some v => .val v h
  | none => .no
noncomputable def OR.onlyV : OR → OR
  | .val v h => .val v h
  | _ => .no
noncomputable def OR.ofH : Option Hp → OR
  | some h => .skip h
  | none => .no

/-- One character out of a text. -/
def decA (n v i : Nat) : Nat × Nat :=
  let at' (k : Nat) : Nat := bif Nat.blt (i + k) n then byteAt v (i + k) else 0
  let cont (k : Nat) : Bool := Nat.blt (i + k) n && Nat.beq (at' k / 64) 2
  let b0 := at' 0
  bif Nat.blt b0 128 then (b0, 1)
  else bif Nat.beq (b0 / 32) 6 && cont 1 then
    let c := (b0 % 32) * 64 + at' 1 % 64
    bif Nat.ble 128 c then (c, 2) else (Utf8.runeError, 1)
  else bif Nat.beq (b0 / 16) 14 && cont 1 && cont 2 then
    let c := (b0 % 16) * 4096 + (at' 1 % 64) * 64 + at' 2 % 64
    bif Nat.ble 2048 c && (Nat.blt c 55296 || (Nat.ble 57344 c && Nat.ble c 1114111)) then (c, 3) else (Utf8.runeError, 1)
  else bif Nat.beq (b0 / 8) 30 && cont 1 && cont 2 && cont 3 then
    let c := (b0 % 8) * 262144 + (at' 1 % 64) * 4096 + (at' 2 % 64) * 64 + at' 3 % 64
    bif Nat.ble 65536 c && (Nat.blt c 55296 || (Nat.ble 57344 c && Nat.ble c 1114111)) then (c, 4) else (Utf8.runeError, 1)
  else (Utf8.runeError, 1)

noncomputable def nextA (h : Hp) (it : AV) : OR :=
  match it with
  | .ptr b 0 => match h.get b with
    | some (.iter n v pos) =>
      bif Nat.blt pos n then
        (match decA n v pos with
        | (c, w) => .val (.tup [.bool true, .int .i64 (.ofNat pos), .int .i32 (.ofNat c)]) (h.set b (.iter n v (pos + w))))
      else .val (.tup [.bool false]) h
    | _ => .no
  | _ => .no

noncomputable def builtinA (P : Program) (b : Builtin) (ts : List TypeId) (type : TypeId) (h : Hp) (args : List AV) : OR :=
  match b, args with
  | .len, [x] => match ts with
    | t :: _ => match P.underlying t, x with
      | some .string, .str n _ => .val (.int .i64 (.ofNat n)) h
      | some (.slice _), .sl _ _ n _ _ => .val (.int .i64 (.ofNat n)) h
      | some (.slice _), .nils => .val (.int .i64 0) h
      | some (.array n _), _ => .val (.int .i64 (.ofNat n)) h
      | some (.map _ _), .nilm => .val (.int .i64 0) h
      | some (.map _ _), .map b => (match h.get b with
        | some (.map es _) => .val (.int .i64 (.ofNat es.length)) h
        | _ => .no)
      | _, _ => .no
    | [] => .no
  | .append, [s, x] => match appendA P ts h s x with
    | some (v, h) => .val v h
    | none => .no
  | .min, [.int k a, .int _ b] => .val (.int k (bif ltI b a then b else a)) h
  | .max, [.int k a, .int _ b] => .val (.int k (bif ltI a b then b else a)) h
  | .recover, [] => .val .nili h
  | .cap, [x] => match ts with
    | t :: _ => match P.underlying t, x with
      | some (.slice _), .nils => .val (.int .i64 0) h
      | some (.slice _), .sl _ _ n _ true => .val (.int .i64 (.ofNat n)) h
      | _, _ => .no
    | [] => .no
  | .copy, [d, x] => match ts with
    | t :: _ => match P.underlying t with
      | some (.slice elem) => match szT P elem with
        | some size => match srcA h size x, d with
          | some (0, _), .sl _ _ _ _ _ => .val (.int .i64 0) h
          | some (_, _), .sl _ _ 0 _ _ => .val (.int .i64 0) h
          | some (_, _), .nils => .val (.int .i64 0) h
          | _, _ => .no
        | none => .no
      | _ => .no
    | [] => .no
  | .clear, [x] => match ts with
    | t :: _ => match P.underlying t, x with
      | some (.slice _), .nils => .val (.tup []) h
      | some (.slice elem), .sl b o n e _ => bif Nat.beq n 0 then .val (.tup []) h else (match (zT P elem).bind AV.cells, h.get b with
        | some z, some (.cells l el false zz) => bif Nat.beq z.length e && Nat.blt 0 e then (match lay l o (repL z n) with
          | some l' => .val (.tup []) (h.set b (.cells l' el false zz))
          | none => .no) else .no
        | _, _ => .no)
      | _, _ => .no
    | [] => .no
  | .unsafeSliceData, [x] => match x with
    | .nils => .val .nilp h
    | .sl b o n _ _ => bif Nat.beq n 0 then .no else .val (.ptr b o) h
    | _ => .no
  | .unsafeString, [p, .int .i64 (.ofNat n)] => match ts with
    | [pt, _] => match P.underlying pt, p with
      | some _, .nilp => bif Nat.beq n 0 then .val (.str 0 0) h else .no
      | some (.pointer u), .ptr b o => bif Nat.beq n 0 then .no else (match h.get b with
        | some (.cells l e false true) => bif Nat.beq e u && Nat.beq (P.cellsOf e) 1 && Nat.beq l.length n && Nat.beq o 0 && Nat.ble n 9223372036854775807 then
            (match bytesToN l with
            | some v => .val (.str n v) (h.set b .dead)
            | none => .no) else .no
        | _ => .no)
      | _, _ => .no
    | _ => .no
  | _, _ => .no
where
  bytesToN : List AV → Option Nat
    | [] => some 0
    | .int .u8 (.ofNat b) :: l => bif Nat.blt b 256 then (match bytesToN l with
      | some v => some (b + 256 * v)
      | none => none) else none
    | _ => none

noncomputable def opdO (N : Nat) (e : Env) : Option Operand → Option (Option AV)
  | none => some none
  | some x => match opd N e x with
    | some v => some (some v)
    | none => none

/-- A slot's value goes on. -/
noncomputable def k1 (f : AV → OR) : Option AV → OR
  | some v => f v
  | none => .no
noncomputable def k2 (f : AV → AV → OR) : Option AV → Option AV → OR
  | some v, w => k1 (f v) w
  | none, _ => .no
noncomputable def aPick (a b : Option AV) (h : Hp) : AV → OR
  | .bool c => OR.ofV h (bif c then a else b)
  | _ => .no
noncomputable def aAlloc2 (t : TypeId) (h : Hp) : Option (List AV) → OR
  | some l => .val (.ptr h.next 0) (h.new (.cells l t false true))
  | none => .no
noncomputable def aAlloc (t : TypeId) (h : Hp) (z : AV) : OR := aAlloc2 t h z.cells
def placeOf (P : Program) (f : Field) : Option (Nat × Nat) :=
  match szT P f.type with
  | some s => some (f.offset, s)
  | none => none
def aggO : Option (List AV) → Option AV
  | some l => some (.agg l)
  | none => none
noncomputable def aBuild (P : Program) (h : Hp) (vs : List (Nat × AV)) : Option (List AV) → TypeDesc → OR
  | some z, .struct fs => (match seqL (fs.toList.map (placeOf P)) with
    | some pl => OR.ofV h (aggO (fillL (fun i => pl[i]?) z vs))
    | none => .no)
  | some z, .array _ elem => (match szT P elem with
    | some s => OR.ofV h (aggO (fillL (fun i => some (i * s, s)) z vs))
    | none => .no)
  | _, _ => .no
noncomputable def aBuildSlice1 (h : Hp) (elem len s : Nat) : Option (List AV) → OR
  | some l => .val (.sl h.next 0 len s true) (h.new (.cells l elem false true))
  | none => .no
noncomputable def aBuildSlice (P : Program) (h : Hp) (len : Nat) (vs : List (Nat × AV)) : TypeDesc → OR
  | .slice elem => match szT P elem with
    | some s => (match (zT P elem).bind AV.cells with
      | some z => bif Nat.ble (len * s) 16777216 && Nat.beq z.length s then aBuildSlice1 h elem len s (fillL (fun i => some (i * s, s)) (repL z len) vs) else .no
      | none => .no)
    | none => .no
  | _ => .no
noncomputable def aNilCheck (h : Hp) : AV → OR
  | .ptr b o => .val (.ptr b o) h
  | .fn (.func f) a c => .val (.fn (.func f) a c) h
  | .fn (.yield f) a c => .val (.fn (.yield f) a c) h
  | _ => .no
noncomputable def aIface (P : Program) (t : TypeId) (h : Hp) (a : AV) : OR :=
  match P.underlying t with
  | some (.interface _) => .no
  | some _ => .val (.iface t a) h
  | none => .no
noncomputable def aFunc (h : Hp) (f : Fn) : Option (List AV) → Option (List AV) → OR
  | some a, some c => (match f with
    | .func g => .val (.fn (.func g) a c) h
    | _ => .no)
  | _, _ => .no
noncomputable def aMakeMap (P : Program) (t : TypeId) (h : Hp) : AV → OR
  | .int _ _ => (match P.underlying t with
    | some (.map _ _) => .val (.map h.next) (h.new (.map [] 0))
    | _ => .no)
  | _ => .no
noncomputable def aMakeSlice2 (P : Program) (h : Hp) (l c elem : Nat) : OR :=
  match szT P elem, (zT P elem).bind AV.cells, byT P elem with
  | some s, some z, some bs => bif Nat.ble l c && Nat.ble c 1000000 && Nat.ble bs 100000 && Nat.beq z.length s then
      .val (.sl h.next 0 l s (Nat.beq l c)) (h.new (.cells (repL z c) elem false true)) else .no
  | _, _, _ => .no
noncomputable def aMakeSlice (P : Program) (t : TypeId) (h : Hp) (l c : AV) : OR :=
  match natI l, natI c, P.underlying t with
  | some l, some c, some (.slice elem) => aMakeSlice2 P h l c elem
  | _, _, _ => .no
noncomputable def aSlice (P : Program) (t : TypeId) (h : Hp) (lo hi mx : Option (Option AV)) (x : AV) : OR :=
  match lo, hi, mx with
  | some lo, some hi, some mx => OR.ofV h (sliceA P t x lo hi mx)
  | _, _, _ => .no
noncomputable def aFieldAddr2 (P : Program) (h : Hp) (b o : Nat) : Option Field → OR
  | some fd => (match szT P fd.type with
    | some (_ + 1) => .val (.ptr b (o + fd.offset)) h
    | _ => .no)
  | none => .no
def fieldsT (P : Program) (t : TypeId) : Option (List Field) :=
  match P.underlying t with
  | some (.struct fs) => some fs.toList
  | _ => none
noncomputable def aFieldAddr (P : Program) (t : TypeId) (f : Nat) (h : Hp) : AV → OR
  | .ptr b o => (match fieldsT P t with
    | some fs => aFieldAddr2 P h b o fs[f]?
    | none => .no)
  | _ => .no
noncomputable def aField2 (P : Program) (h : Hp) (l : List AV) : Option Field → OR
  | some fd => OR.ofV h (loadC P fd.type l fd.offset)
  | none => .no
noncomputable def aField (P : Program) (t : TypeId) (f : Nat) (h : Hp) : AV → OR
  | .agg l => (match fieldsT P t with
    | some fs => aField2 P h l fs[f]?
    | none => .no)
  | _ => .no
noncomputable def aRange (P : Program) (t : TypeId) (h : Hp) : AV → OR
  | .str n v => (match P.underlying t with
    | some .string => .val (.ptr h.next 0) (h.new (.iter n v 0))
    | _ => .no)
  | _ => .no
noncomputable def aAssert (P : Program) (t : TypeId) (h : Hp) (x : AV) : OR :=
  match P.underlying t with
  | some (.interface _) => .no
  | none => .no
  | some _ => match x with
    | .nili => (match zT P t with
      | some z => .val (.tup [z, .bool false]) h
      | none => .no)
    | .iface u v => bif Nat.beq u t then .val (.tup [v, .bool true]) h else .no
    | _ => .no
noncomputable def aExtract (i : Nat) (h : Hp) : AV → OR
  | .tup l => OR.ofV h l[i]?
  | _ => .no
noncomputable def aCall2 (P : Program) (ts : List TypeId) (ty : TypeId) (h : Hp) (args : List AV) : Callee → (Operand → Option AV) → OR
  | .builtin b, _ => OR.onlyV (builtinA P b ts ty h args)
  | .value f, ρ => k1 (fun f => .call f args) (ρ f)
  | _, _ => .no
noncomputable def aCall (P : Program) (e : Env) (h : Hp) (ty : TypeId) (c : Call) : Option (List AV) → OR
  | some args => aCall2 P c.argTypes.toList ty h args c.callee (opd h.g e)
  | none => .no
noncomputable def aDefer (e : Env) (h : Hp) (c : Call) : Option (List AV) → OR
  | some args => (match c.callee with
    | .value f => k1 (fun f => .dfr f args) (opd h.g e f)
    | _ => .no)
  | none => .no
noncomputable def kL (f : List (Nat × AV) → OR) : Option (List (Nat × AV)) → OR
  | some l => f l
  | none => .no
noncomputable def kT (f : TypeDesc → OR) : Option TypeDesc → OR
  | some l => f l
  | none => .no

/-- One operation, but for calls of functions. -/
noncomputable def aopO (P : Program) (e : Env) (h : Hp) (ty : TypeId) : Op → OR
  | .move x => OR.ofV h (opd h.g e x)
  | .assign x => OR.ofV h (opd h.g e x)
  | .pick c a b => k1 (aPick (opd h.g e a) (opd h.g e b) h) (opd h.g e c)
  | .alloc t => k1 (aAlloc t h) (zT P t)
  | .box t x => k1 (aAlloc t h) (opd h.g e x)
  | .build t ps => kL (fun vs => k1 (fun z => kT (aBuild P h vs z.cells) (P.underlying t)) (zT P t)) (opParts h.g e ps.toList)
  | .buildSlice t len ps => kL (fun vs => kT (aBuildSlice P h len vs) (P.underlying t)) (opParts h.g e ps.toList)
  | .insert t m k v => k2 (fun m k => k1 (fun v => OR.ofH (updateA P t h m k v)) (opd h.g e v)) (opd h.g e m) (opd h.g e k)
  | .mapUpdate t m k v => k2 (fun m k => k1 (fun v => OR.ofH (updateA P t h m k v)) (opd h.g e v)) (opd h.g e m) (opd h.g e k)
  | .load t a => k1 (fun a => OR.ofV h (load P t h a)) (opd h.g e a)
  | .store t a v => k2 (fun a v => OR.ofH (store P t h a v)) (opd h.g e a) (opd h.g e v)
  | .nilCheck x => k1 (aNilCheck h) (opd h.g e x)
  | .binOp op t x y _ => k2 (fun a b => OR.ofV h (binA P op t x y a b)) (opd h.g e x) (opd h.g e y)
  | .unOp op _ x => k1 (fun a => OR.ofV h (unA op a)) (opd h.g e x)
  | .convert s d x => k1 (fun a => OR.ofV h (convA P s d h a)) (opd h.g e x)
  | .makeInterface t x => k1 (aIface P t h) (opd h.g e x)
  | .makeFunc f a c => aFunc h f (opds h.g e a.toList) (opds h.g e c.toList)
  | .makeMap _ none => .val (.map h.next) (h.new (.map [] 0))
  | .makeMap t (some r) => k1 (aMakeMap P t h) (opd h.g e r)
  | .makeSlice t l c => k2 (aMakeSlice P t h) (opd h.g e l) (opd h.g e c)
  | .slice t x lo hi mx => k1 (aSlice P t h (opdO h.g e lo) (opdO h.g e hi) (opdO h.g e mx)) (opd h.g e x)
  | .fieldAddr t x f => k1 (aFieldAddr P t f h) (opd h.g e x)
  | .field t x f => k1 (aField P t f h) (opd h.g e x)
  | .indexAddr t x i => k2 (fun x i => OR.ofV h (indexAddrA P t x i)) (opd h.g e x) (opd h.g e i)
  | .index t x i => k2 (fun x i => OR.ofV h (indexA P t x i)) (opd h.g e x) (opd h.g e i)
  | .lookup t x k ok => k2 (fun x k => OR.ofV h (lookupA P t h x k ok)) (opd h.g e x) (opd h.g e k)
  | .range t x => k1 (aRange P t h) (opd h.g e x)
  | .next it true => k1 (nextA h) (opd h.g e it)
  | .typeAssert x _ t true => k1 (aAssert P t h) (opd h.g e x)
  | .extract t i => k1 (aExtract i h) (opd h.g e t)
  | .call c => aCall P e h ty c (opds h.g e c.args.toList)
  | .defer c => aDefer e h c (opds h.g e c.args.toList)
  | _ => .no
noncomputable def aop (P : Program) (e : Env) (h : Hp) (o : Oper) : OR := aopO P e h o.type o.op

/-- What waits for a function's end. -/
inductive AD where
  | mark (b : Nat)
  | call (f : AV) (args : List AV)

inductive Req where
  | code (c : Code) (e : Env) (h : Hp) (d : List AD) (r : Bool)
  | call (f : AV) (args : List AV) (h : Hp)

inductive Out where
  | done (x : Ex) (e : Env) (h : Hp) (d : List AD)
  | ret (v : AV) (h : Hp)
  | no
  deriving Inhabited

/-- Is an operation asked for? -/
noncomputable def wantA (ops : List Oper) (e : Env) (o : Oper) : Option Bool :=
  match o.guard with
  | none => some true
  | some (j, want) => match ops[j]? with
    | some p => match p.dst with
      | some d => match Env.get e d with
        | some (.bool b) => some (b == want)
        | some _ => some false
        | none => none
      | none => none
    | none => none

abbrev Cont := Env → Hp → List AD → Out
def isFunc : AV → Bool
  | .fn (.func _) _ _ => true
  | _ => false
/-- What an operation comes to, with calls: a value, the blocks, what is deferred. -/
inductive O3 where
  | is (v : AV) (h : Hp) (d : List AD)
  | no
noncomputable def o3Call (d : List AD) : Out → O3
  | .ret v h => .is v h d
  | _ => .no
noncomputable def o3 (rec : Req → Out) (h : Hp) (d : List AD) : OR → O3
  | .val v h => .is v h d
  | .skip h => .is (.tup []) h d
  | .call f args => o3Call d (rec (.call f args h))
  | .dfr f args => bif isFunc f then .is (.tup []) h (.call f args :: d) else .no
  | .no => .no
noncomputable def evK (e : Env) (dst : Option Tmp) (ih : Cont) : O3 → Out
  | .is v h d => ih (Env.put e dst v) h d
  | .no => .no
noncomputable def evOp (P : Program) (rec : Req → Out) (e : Env) (h : Hp) (d : List AD) (o : Oper) (ih : Cont) : Option Bool → Out
  | some true => evK e o.dst ih (o3 rec h d (aop P e h o))
  | some false => ih (Env.put e o.dst (.tup [])) h d
  | none => .no
noncomputable def evOps (P : Program) (rec : Req → Out) (ops : List Oper) (l : List Oper) : Cont :=
  List.rec (motive := fun _ => Cont) (fun e h d => .done .normal e h d)
    (fun o _ ih e h d => evOp P rec e h d o ih (wantA ops e o)) l

/-! Regions whose order is drawn: the operations in one order, and what was read looked at again after each later one that acts. -/
structure PE where
  i : Nat
  b : Nat
  o : Oper
  c : Nat

def eqFn : Fn → Fn → Bool
  | .func a, .func b => Nat.beq a b
  | .yield a, .yield b => Nat.beq a b
  | _, _ => false
mutual
def eqAV : AV → AV → Bool
  | .bool a, .bool b => a == b
  | .int k a, .int j b => eqK k j && eqI a b
  | .str n a, .str m b => Nat.beq n m && Nat.beq a b
  | .ptr b o, .ptr c p => Nat.beq b c && Nat.beq o p
  | .nilp, .nilp => true
  | .sl b o n e c, .sl b' o' n' e' c' => Nat.beq b b' && Nat.beq o o' && Nat.beq n n' && Nat.beq e e' && c == c'
  | .nils, .nils => true
  | .map a, .map b => Nat.beq a b
  | .nilm, .nilm => true
  | .fn f a c, .fn g a' c' => eqFn f g && eqAVs a a' && eqAVs c c'
  | .nilf, .nilf => true
  | .iface t v, .iface u x => Nat.beq t u && eqAV v x
  | .nili, .nili => true
  | .agg l, .agg m => eqAVs l m
  | .tup l, .tup m => eqAVs l m
  | _, _ => false
def eqAVs : List AV → List AV → Bool
  | [], [] => true
  | a :: l, b :: m => eqAV a b && eqAVs l m
  | _, _ => false
end

/-- 0: of the operands alone; 1: reads; 3: makes a block; 2: else. -/
def clsB : Builtin → Nat
  | .len => 1
  | .cap | .min | .max | .unsafeSliceData => 0
  | _ => 2
def clsOf : Op → Nat
  | .move _ | .pick .. | .build .. | .nilCheck _ | .binOp .. | .unOp .. | .makeInterface .. | .makeFunc .. | .slice .. | .fieldAddr .. | .field .. | .indexAddr .. | .index .. | .typeAssert .. | .extract .. => 0
  | .load .. | .lookup .. | .convert .. => 1
  | .alloc .. | .box .. | .buildSlice .. => 3
  | .call { callee := .builtin b, .. } => clsB b
  | _ => 2
def lk (l : List Nat) (i : Nat) : Nat := match l[i]? with
  | some x => x
  | none => 0
def bEdge (acc : List Nat) (s : Nat) (e : Edge) : Nat := bif Region.binds .any e then Nat.lor (Nat.lor s (Nat.shiftLeft 1 e.on)) (lk acc e.on) else s
def bOf (acc : List Nat) (o : Oper) : Nat := o.after.toList.foldl (bEdge acc) 0
def befs : List Oper → List Nat → List Nat
  | [], acc => acc
  | o :: l, acc => befs l (acc ++ [bOf acc o])
def entries (bs : List Nat) : List Oper → Nat → List PE
  | [], _ => []
  | o :: l, i => ⟨i, lk bs i, o, clsOf o.op⟩ :: entries bs l (i + 1)
def bit (b i : Nat) : Bool := Nat.testBit b i
def pickPE (done : Nat) (ok : Nat → Bool) : List PE → Option PE
  | [] => none
  | p :: l => bif Nat.beq (Nat.land p.b done) p.b && ok p.c then some p else pickPE done ok l
def orE {α : Type} : Option α → Option α → Option α
  | some a, _ => some a
  | none, b => b
def planGo : Nat → Nat → List PE → List PE
  | 0, _, _ => []
  | n + 1, done, l => match orE (pickPE done (fun c => Nat.ble c 1) l) (orE (pickPE done (fun c => Nat.beq c 2) l) (pickPE done (fun _ => true) l)) with
    | some p => p :: planGo n (Nat.lor done (Nat.shiftLeft 1 p.i)) (l.filter fun q => !Nat.beq q.i p.i)
    | none => []
def tmpsOf (ops : List Oper) (o : Oper) : List Tmp :=
  (o.op.operands.toList.filterMap fun | .tmp t => some t | _ => none) ++ (match o.guard with
    | some (j, _) => (match ops[j]? with
      | some p => p.dst.toList
      | none => [])
    | none => [])
def isTmp (d : Option Tmp) (t : Tmp) : Bool := match d with
  | some u => Nat.beq u t
  | none => false
/-- Readers and writers of slots are in order; a slot has one writer. -/
def tidy (ops : List Oper) (es : List PE) (p : PE) : Bool :=
  es.all fun q => (tmpsOf ops p.o).all fun t => !isTmp q.o.dst t || Nat.beq q.i p.i || bit p.b q.i || bit q.b p.i
def lone1 (es : List PE) (p : PE) : Bool := match p.o.dst with
  | some t => es.all fun q => !isTmp q.o.dst t || Nat.beq q.i p.i
  | none => true
def guarded (ops : List Oper) (p : PE) : Bool := match p.o.guard with
  | some (j, _) => bit p.b j && (match ops[j]? with
    | some q => q.dst.isSome
    | none => false)
  | none => true
/-- The order of the list fits: each comes after what it waits for; what acts is in one order, but for made blocks; what reads waits for all that acts before it. -/
def fits : Nat → List PE → List PE → Bool
  | _, _, [] => true
  | done, before, p :: l =>
    Nat.beq (Nat.land p.b done) p.b && !bit done p.i &&
    (before.all fun q => !Nat.blt 1 q.c || Nat.beq p.c 0 || Nat.beq p.c 3 || bit p.b q.i) &&
    fits (Nat.lor done (Nat.shiftLeft 1 p.i)) (p :: before) l
def downE (ops : List Oper) : Bool := (List.range ops.length).all fun i => match ops[i]? with
  | some o => o.after.toList.all fun e => !Region.binds .any e || Nat.blt e.on i
  | none => false
def planOf (ops : List Oper) : Option (List PE) :=
  let es := entries (befs ops []) ops 0
  let pl := planGo ops.length 0 es
  bif Nat.beq pl.length ops.length && downE ops && fits 0 [] pl && es.all (fun p => tidy ops es p && lone1 es p && guarded ops p) then some pl else none

abbrev Watch := Nat × Env × Oper × AV
abbrev DCont := Env → Hp → List AD → List Watch → Out
noncomputable def sameOR (v : AV) : OR → Bool
  | .val u _ => eqAV u v
  | _ => false
noncomputable def watchOk (P : Program) (h : Hp) (b : Nat) : List Watch → Option (List Watch)
  | [] => some []
  | (i, e, o, v) :: l => bif bit b i then watchOk P h b l else bif sameOR v (aop P e h o) then (match watchOk P h b l with
    | some W => some ((i, e, o, v) :: W)
    | none => none) else none
noncomputable def evDW (e : Env) (h : Hp) (d : List AD) (ih : DCont) : Option (List Watch) → Out
  | some W => ih e h d W
  | none => .no
noncomputable def evDK (P : Program) (e : Env) (p : PE) (W : List Watch) (ih : DCont) : O3 → Out
  | .is v h d => bif Nat.beq p.c 0 then ih (Env.put e p.o.dst v) h d W
    else bif Nat.beq p.c 1 then ih (Env.put e p.o.dst v) h d ((p.i, e, p.o, v) :: W)
    else evDW (Env.put e p.o.dst v) h d ih (watchOk P h p.b W)
  | .no => .no
noncomputable def evDOp (P : Program) (rec : Req → Out) (e : Env) (h : Hp) (d : List AD) (W : List Watch) (p : PE) (ih : DCont) : Option Bool → Out
  | some true => evDK P e p W ih (bif Nat.beq p.c 3 then o3 rec h.bump d (aop P e h.bump p.o) else o3 rec h d (aop P e h p.o))
  | some false => ih (Env.put e p.o.dst (.tup [])) h d W
  | none => .no
noncomputable def evD (P : Program) (rec : Req → Out) (ops : List Oper) (l : List PE) : DCont :=
  List.rec (motive := fun _ => DCont) (fun e h d _ => .done .normal e h d)
    (fun p _ ih e h d W => evDOp P rec e h d W p ih (wantA ops e p.o)) l
noncomputable def evDr (P : Program) (rec : Req → Out) (ops : List Oper) (e : Env) (h : Hp) (d : List AD) : Option (List PE) → Out
  | some l => evD P rec ops l e h d []
  | none => .no

noncomputable def env0 (args : List AV) : Nat → Env → Env :=
  List.rec (motive := fun _ => Nat → Env → Env) (fun _ e => e) (fun v _ ih i e => ih (Nat.succ i) (setF 11 e i v)) args

/-- The deferred calls, the last one first. -/
noncomputable def runD (rec : Req → Out) : List AD → Hp → Option Hp
  | [], h => some h
  | .mark b :: d, h => match h.get b with
    | some .deferred => runD rec d (h.set b .dead)
    | _ => none
  | .call f args :: d, h => bif isFunc f then (match rec (.call f args h) with
    | .ret _ h => runD rec d h
    | _ => none) else none

noncomputable def resA (P : Program) (e : Env) (h : Hp) : List ResultVar → Option (List AV)
  | [] => some []
  | .tmp t :: l => match Env.get e t, resA P e h l with
    | some v, some r => some (v :: r)
    | _, _ => none
  | .cell a t :: l => match Env.get e a with
    | some a => (match load P t h a, resA P e h l with
      | some v, some r => some (v :: r)
      | _, _ => none)
    | none => none

/-- A byte's place. -/
def ixb : Nat → Nat → Nat → Nat → Int
  | 0, _, _, _ => -1
  | n + 1, v, c, i => bif Nat.beq (Nat.land v 255) c then .ofNat i else ixb n (Nat.shiftRight v 8) c (i + 1)

noncomputable def extMake (P : Program) (fn : Func) (h : Hp) : List AV → OR
  | [.int .i64 (.ofNat n)] => (match fn.resultTypes.toList with
    | [t] => (match P.underlying t with
      | some (.slice elem) => bif Nat.ble n 1000000000 then .val (.sl h.next 0 n 1 false) (h.new (.cells [] elem false true)) else .no
      | _ => .no)
    | _ => .no)
  | _ => .no

/-- The library's functions without a body. -/
noncomputable def externA (P : Program) (fn : Func) (h : Hp) (args : List AV) : OR :=
  bif fn.name == "internal/abi.NoEscape" then (match args with
    | [x] => .val x h
    | _ => .no)
  else bif fn.name == "internal/bytealg.IndexByteString" then (match args with
    | [.str n v, .int .u8 (.ofNat c)] => bif Nat.blt c 256 then .val (.int .i64 (ixb n v c 0)) h else .no
    | _ => .no)
  else bif fn.name == "internal/bytealg.MakeNoZero" then extMake P fn h args
  else .no

noncomputable def putAll : List Tmp → List AV → Env → Option Env
  | [], [], e => some e
  | t :: ts, v :: vs, e => putAll ts vs (setF 11 e t v)
  | _, _, _ => none

noncomputable def evSeq (rec : Req → Out) (b : Code) (r : Bool) : Out → Out
  | .done .normal e h d => rec (.code b e h d r)
  | o => o
noncomputable def evCond (rec : Req → Out) (a b : Code) (e : Env) (h : Hp) (d : List AD) (r : Bool) : Option AV → Out
  | some (.bool c) => rec (.code (bif c then a else b) e h d r)
  | _ => .no
noncomputable def evBlock (id : Nat) : Out → Out
  | .done (.exit j) e h d => .done (bif Nat.beq j id then .normal else .exit j) e h d
  | o => o
noncomputable def evRF3 (e : Env) (h : Hp) (d : List AD) (l : Nat) : Option AO → Out
  | some (.loop st pend en ps asg body) => bif Nat.beq st 1 then .no else .done pend e (h.set l (.loop 3 pend en ps asg body)) d
  | _ => .no
noncomputable def evRF2 (e : Env) (d : List AD) (l : Nat) : Out → Out
  | .ret _ h => evRF3 e h d l (h.get l)
  | _ => .no
noncomputable def evRF1 (rec : Req → Out) (e : Env) (h : Hp) (d : List AD) (ps : List Tmp) (asg body : Code) (fv : AV) : Out :=
  evRF2 e d h.next (rec (.call fv [.fn (.yield h.next) [] []] (h.new (.loop 0 .normal e ps asg body))))
noncomputable def evRF (rec : Req → Out) (e : Env) (h : Hp) (d : List AD) (r : Bool) (ps : List Tmp) (asg body : Code) : Option AV → Out
  | some fv => bif r then evRF1 rec e h d ps asg body fv else evRF1 rec e (h.new .deferred) (.mark h.next :: d) ps asg body fv
  | none => .no
noncomputable def evCode (P : Program) (rec : Req → Out) (e : Env) (h : Hp) (d : List AD) (r : Bool) : Code → Out
  | .skip => .done .normal e h d
  | .label _ => .done .normal e h d
  | .region _ ops draw => bif draw then evDr P rec ops.toList e h d (planOf ops.toList) else evOps P rec ops.toList ops.toList e h d
  | .seq a b => evSeq rec b r (rec (.code a e h d r))
  | .cond x a b => evCond rec a b e h d r (opd h.g e x)
  | .block id a => evBlock id (rec (.code a e h d r))
  | .loop a => evSeq rec (.loop a) r (rec (.code a e h d r))
  | .scope a => rec (.code a e h d r)
  | .exit id => .done (.exit id) e h d
  | .ret => .done .ret e h d
  | .rangeFunc f ps asg body => evRF rec e h d r ps.toList asg body (opd h.g e f)
  | _ => .no
noncomputable def evRes (h : Hp) : Option (List AV) → Out
  | some [v] => .ret v h
  | some vs => .ret (.tup vs) h
  | none => .no
noncomputable def evEnd2 (P : Program) (fn : Func) (e : Env) : Option Hp → Out
  | some h => evRes h (resA P e h fn.results.toList)
  | none => .no
noncomputable def evEnd (P : Program) (rec : Req → Out) (fn : Func) : Out → Out
  | .done (.exit _) _ _ _ => .no
  | .done _ e h d => evEnd2 P fn e (runD rec d h)
  | _ => .no
noncomputable def evExt : OR → Out
  | .val v h => .ret v h
  | _ => .no
noncomputable def evFunc2 (P : Program) (rec : Req → Out) (args : List AV) (h : Hp) (fn : Func) : Option Code → Out
  | some c => evEnd P rec fn (rec (.code c (env0 args 0 .lf) h [] false))
  | none => evExt (externA P fn h args)
noncomputable def evFunc (P : Program) (rec : Req → Out) (args : List AV) (h : Hp) : Option Func → Out
  | some fn => evFunc2 P rec args h fn fn.body
  | none => .no
noncomputable def evY5 (l : Nat) (x : Ex) (h : Hp) : Option AO → Out
  | some (.loop _ _ en ps asg body) => (match x with
    | .normal => .ret (.bool true) (h.set l (.loop 0 .normal en ps asg body))
    | x => .ret (.bool false) (h.set l (.loop 2 x en ps asg body)))
  | _ => .no
noncomputable def evY4 (l : Nat) : Out → Out
  | .done x _ h [] => evY5 l x h (h.get l)
  | _ => .no
noncomputable def evY3 (rec : Req → Out) (l : Nat) (e : Env) (h : Hp) (body : Code) : Option AO → Out
  | some (.loop 0 pend en ps asg bd) => evY4 l (rec (.code body e (h.set l (.loop 1 pend en ps asg bd)) [] true))
  | _ => .no
noncomputable def evY2 (rec : Req → Out) (l : Nat) (body : Code) : Out → Out
  | .done .normal e h [] => evY3 rec l e h body (h.get l)
  | _ => .no
noncomputable def evY1 (rec : Req → Out) (l : Nat) (h : Hp) (asg body : Code) : Option Env → Out
  | some e => evY2 rec l body (rec (.code asg e h [] true))
  | none => .no
noncomputable def evY (rec : Req → Out) (l : Nat) (args : List AV) (h : Hp) : Option AO → Out
  | some (.loop _ _ en ps asg body) => evY1 rec l h asg body (putAll ps args en)
  | _ => .no
noncomputable def evCall (P : Program) (rec : Req → Out) (args : List AV) (h : Hp) : AV → Out
  | .fn (.func g) first cap => evFunc P rec (first ++ (args ++ cap)) h P.funcs[g]?
  | .fn (.yield l) [] _ => evY rec l args h (h.get l)
  | _ => .no
noncomputable def evStep (P : Program) (rec : Req → Out) : Req → Out
  | .code c e h d r => evCode P rec e h d r c
  | .call f args h => evCall P rec args h f

/-- The evaluator, with so much fuel. -/
noncomputable def ev (P : Program) (n : Nat) : Req → Out :=
  Nat.rec (motive := fun _ => Req → Out) (fun _ => .no) (fun _ ih => evStep P ih) n

end Go.Ev
