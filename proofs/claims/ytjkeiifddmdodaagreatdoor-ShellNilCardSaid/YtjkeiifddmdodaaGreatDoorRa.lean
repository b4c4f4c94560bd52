/-
  An interpreter of the machine's code on a heap whose blocks have names: definitions alone; nothing is claimed.
-/
import GoSem.Core.Code
import GoSem.Core.Region
import GoSem.Dispatch
import GoSem.Machine.Frame
import GoSem.Elab.Main
namespace Go.Ri

inductive V where
  | hole
  | bool (b : Bool)
  | int (k : IntKind) (n : Int)
  | str (s : List Nat)
  | ptr (a : Option (Nat × Nat))
  | slice (a : Option (Nat × Nat)) (len cap sz : Nat) (ex : Bool)
  | empt
  | map (r : Option Nat)
  | func (fn : Nat) (captured : List V)
  | nilFunc
  | iface (t : TypeId) (v : V)
  | nilIface
  | agg (cs : List V)
  | tuple (vs : List V)
  deriving Inhabited

/-- A block: cells (their type, is the whole block told, may it be read alone), a map. -/
inductive O where
  | cells (vs : List V) (elem : TypeId) (ex fz : Bool)
  | map (es : List (V × V))
  | iter (m : Nat)
  deriving Inhabited

/-- A tree by number. -/
inductive TT (α : Type) where
  | e
  | n (l : TT α) (v : α) (r : TT α)
  deriving Inhabited

noncomputable def TT.get {α : Type} (d : α) (t : TT α) : Nat → α :=
  TT.rec (motive := fun _ => Nat → α) (fun _ => d)
    (fun _ v _ gl gr k => Bool.rec (motive := fun _ => α) (Bool.rec (motive := fun _ => α) (gr (Nat.sub (Nat.div k 2) 1)) (gl (Nat.div k 2)) (Nat.beq (Nat.mod k 2) 1)) v (Nat.beq k 0)) t

noncomputable def TT.set {α : Type} (o : α) (t : TT α) : Nat → TT α :=
  TT.rec (motive := fun _ => Nat → TT α) (fun _ => .e)
    (fun l v r sl sr k => Bool.rec (motive := fun _ => TT α) (Bool.rec (motive := fun _ => TT α) (.n l v (sr (Nat.sub (Nat.div k 2) 1))) (.n (sl (Nat.div k 2)) v r) (Nat.beq (Nat.mod k 2) 1)) (.n l o r) (Nat.beq k 0)) t

/-- A whole tree of a depth, all alike. -/
def TT.full {α : Type} (v : α) : Nat → TT α
  | 0 => .e
  | d + 1 => .n (full v d) v (full v d)

noncomputable def nth {α : Type} (l : List α) : Nat → Option α :=
  List.rec (motive := fun _ => Nat → Option α) (fun _ => none) (fun a _ g k => Bool.rec (motive := fun _ => Option α) (g (Nat.sub k 1)) (some a) (Nat.beq k 0)) l
noncomputable def dropN {α : Type} (l : List α) : Nat → Option (List α) :=
  List.rec (motive := fun _ => Nat → Option (List α)) (fun k => Bool.rec (motive := fun _ => Option (List α)) none (some []) (Nat.beq k 0))
    (fun a r g k => Bool.rec (motive := fun _ => Option (List α)) (g (Nat.sub k 1)) (some (a :: r)) (Nat.beq k 0)) l
noncomputable def takeN {α : Type} (l : List α) : Nat → Option (List α) :=
  List.rec (motive := fun _ => Nat → Option (List α)) (fun k => Bool.rec (motive := fun _ => Option (List α)) none (some []) (Nat.beq k 0))
    (fun a _ g k => Bool.rec (motive := fun _ => Option (List α)) (Option.rec (motive := fun _ => Option (List α)) none (fun r => some (a :: r)) (g (Nat.sub k 1))) (some []) (Nat.beq k 0)) l
/-- New ones over the head of a list. -/
noncomputable def overH {α : Type} (ws : List α) : List α → Option (List α) :=
  List.rec (motive := fun _ => List α → Option (List α)) (fun l => some l)
    (fun w _ g l => List.rec (motive := fun _ => Option (List α)) none (fun _ l _ => Option.rec (motive := fun _ => Option (List α)) none (fun r => some (w :: r)) (g l)) l) ws
/-- New ones over a list from a place on. -/
noncomputable def overN {α : Type} (ws : List α) (l : List α) : Nat → Option (List α) :=
  List.rec (motive := fun _ => Nat → Option (List α)) (fun k => Bool.rec (motive := fun _ => Option (List α)) none (overH ws []) (Nat.beq k 0))
    (fun a r g k => Bool.rec (motive := fun _ => Option (List α)) (Option.rec (motive := fun _ => Option (List α)) none (fun r => some (a :: r)) (g (Nat.sub k 1))) (overH ws (a :: r)) (Nat.beq k 0)) l
noncomputable def lenN {α : Type} (l : List α) : Nat := List.rec (motive := fun _ => Nat → Nat) (fun n => n) (fun _ _ g n => g (Nat.succ n)) l 0

/-- A type: what it is, its cells, its bytes, its zero value, its methods. -/
structure Ty where
  d : TypeDesc
  sz : Nat
  by_ : Nat
  z : Option V
  ms : List Method

/-- What is known of the program. -/
structure Env where
  P : Program
  ty : TT (Option Ty)
  fn : TT (Option Func)
  ex : TT (Option Nat)

noncomputable def Env.t (E : Env) (t : Nat) : Option Ty := E.ty.get none t

/-- A frame: how many temporaries there are, and what they hold. -/
structure Fr where
  n : Nat
  t : TT V

structure St where
  h : TT (Option O)
  nx : Nat
  deriving Inhabited

noncomputable def St.get (s : St) (r : Nat) : Option O := s.h.get none r
noncomputable def St.put (s : St) (r : Nat) (o : O) : St := { s with h := s.h.set (some o) r }
noncomputable def St.kill (s : St) (r : Nat) : St := { s with h := s.h.set none r }
noncomputable def St.new (s : St) (o : O) : St := { h := s.h.set (some o) s.nx, nx := s.nx + 1 }

def enc (s : ByteArray) : List Nat := s.data.toList.map UInt8.toNat

def und : V := .tuple []

/-- A constant that bears no address. -/
def ofCell : Value → Option V
  | .bool b => some (.bool b)
  | .int k n => some (.int k n)
  | .string s => some (.str (enc s))
  | .pointer none => some (.ptr none)
  | .slice none 0 0 => some (.slice none 0 0 0 true)
  | .map none => some (.map none)
  | .nilFunc => some .nilFunc
  | .nilIface => some .nilIface
  | .func (.func f) a b => if a.size = 0 ∧ b.size = 0 then some (.func f []) else none
  | _ => none
def ofConst : Value → Option V
  | .agg cs => (cs.toList.mapM ofCell).map .agg
  | .tuple vs => (vs.toList.mapM ofCell).map .tuple
  | .iface t v => (ofCell v).map (.iface t)
  | v => ofCell v

noncomputable def ev (tm : Fr) : Operand → Option V
  | .tmp t => some (tm.t.get und t)
  | .const v => ofConst v
  | .global g => bif Nat.ble (Nat.succ g) 10 then some (.ptr (some (g, 0))) else none
  | .func f => some (.func f [])

noncomputable def evs (tm : Fr) (l : List Operand) : Option (List V) := l.mapM (ev tm)

def V.cells : V → List V
  | .agg cs => cs
  | v => [v]
/-- The cells of a value that is told. -/
def V.told : V → Option (List V)
  | .agg cs => some cs
  | .hole => none
  | v => some [v]

noncomputable def under (E : Env) (t : TypeId) : Option TypeDesc := (E.t t).map (·.d)
noncomputable def size (E : Env) (t : TypeId) : Option Nat := (E.t t).map (·.sz)
noncomputable def bytes (E : Env) (t : TypeId) : Option Nat := (E.t t).map (·.by_)
noncomputable def zero (E : Env) (t : TypeId) : Option V := (E.t t).bind (·.z)
def agD : TypeDesc → Bool
  | .struct _ | .array _ _ => true
  | _ => false

/-- Cells that are read. -/
noncomputable def St.rd (s : St) (a : Nat × Nat) (n : Nat) : Option (List V) :=
  match s.get a.1 with
  | some (.cells vs _ _ _) => (dropN vs a.2).bind fun l => takeN l n
  | _ => none
noncomputable def St.rd1 (s : St) (a : Nat × Nat) : Option V :=
  match s.get a.1 with
  | some (.cells vs _ _ _) => nth vs a.2
  | _ => none
/-- Is it surely a value of one cell? -/
def V.one : V → Bool
  | .hole => false
  | .agg _ => false
  | .tuple _ => false
  | _ => true
noncomputable def ones (l : List V) : Bool := List.rec (motive := fun _ => Bool) true (fun v _ r => Bool.rec (motive := fun _ => Bool) false r v.one) l
noncomputable def St.wr (s : St) (a : Nat × Nat) (ws : List V) : Option St :=
  match s.get a.1 with
  | some (.cells vs e ex fz) => bif fz then none else bif !ones ws then none else match overN ws vs a.2 with
    | some vs => some (s.put a.1 (.cells vs e ex false))
    | none => none
  | _ => none

noncomputable def ldV (E : Env) (t : TypeId) (a : Nat × Nat) (s : St) : Option V :=
  match E.t t with
  | some i => bif agD i.d then (s.rd a i.sz).map .agg else s.rd1 a
  | none => none
noncomputable def part (E : Env) (t : TypeId) (cs : List V) (off : Nat) : Option V :=
  match E.t t with
  | some i => bif agD i.d then ((dropN cs off).bind fun l => takeN l i.sz).map .agg else nth cs off
  | none => none

def plus (a : Nat × Nat) (n : Nat) : Nat × Nat := (a.1, a.2 + n)

/-- Parts laid over zero cells. -/
noncomputable def fillI (place : Nat → Option (Nat × Nat)) (cells : List V) : List (Nat × V) → Option (List V)
  | [] => some cells
  | (i, v) :: rest =>
    match place i, v.told with
    | some (off, sz), some l => bif Nat.beq (lenN l) sz then match overN l cells off with
        | some cs => fillI place cs rest
        | none => none
      else none
    | _, _ => none

def repeatI (z : List V) : Nat → List V
  | 0 => []
  | n + 1 => z ++ repeatI z n

noncomputable def cmpI (E : Env) (t : TypeId) (v w : V) : Option Bool :=
  match under E t, v, w with
  | some .bool, .bool a, .bool b => some (a == b)
  | some (.pointer _), .ptr none, .ptr b => some b.isNone
  | some (.pointer _), .ptr (some _), .ptr none => some false
  | some (.pointer e), .ptr (some a), .ptr (some b) => match size E e with
    | some (_ + 1) => bif Nat.beq a.1 b.1 then some (Nat.beq a.2 b.2) else none
    | _ => none
  | some (.interface _), .nilIface, .iface _ _ => some false
  | some (.interface _), .iface _ _, .nilIface => some false
  | some (.interface _), .iface t _, .iface u _ => bif Nat.beq t u then none else some false
  | some (.slice _), .slice none _ _ _ _, .slice b _ _ _ _ => some b.isNone
  | some (.slice _), .slice (some _) _ _ _ _, .slice none _ _ _ _ => some false
  | some (.slice _), .slice none _ _ _ _, .empt => some false
  | some (.slice _), .empt, .slice none _ _ _ _ => some false
  | some (.map _ _), .map none, .map b => some b.isNone
  | some (.map _ _), .map (some _), .map none => some false
  | some (.func _ _ _), .nilFunc, .nilFunc => some true
  | some (.func _ _ _), .nilFunc, .func _ _ => some false
  | some (.func _ _ _), .func _ _, .nilFunc => some false
  | _, _, _ => none

/-- Is a number surely of a kind? -/
def inR (k : IntKind) (n : Int) : Bool :=
  match k, n with
  | .i64, .ofNat a => Nat.blt a 9223372036854775808
  | .i64, .negSucc a => Nat.blt a 9223372036854775808
  | .u8, .ofNat a => Nat.blt a 256
  | .u16, .ofNat a => Nat.blt a 65536
  | .u32, .ofNat a => Nat.blt a 4294967296
  | .u64, .ofNat a => Nat.blt a 18446744073709551616
  | .i32, .ofNat a => Nat.blt a 2147483648
  | .i32, .negSucc a => Nat.blt a 2147483648
  | _, _ => false
def wrI (k : IntKind) (n : Int) : V := bif inR k n then .int k n else .int k (k.wrap n)
def eqZ : Int → Int → Bool
  | .ofNat a, .ofNat b => Nat.beq a b
  | .negSucc a, .negSucc b => Nat.beq a b
  | _, _ => false
def ltZ : Int → Int → Bool
  | .ofNat a, .ofNat b => Nat.blt a b
  | .negSucc a, .negSucc b => Nat.blt b a
  | .negSucc _, .ofNat _ => true
  | .ofNat _, .negSucc _ => false
def kBeq : IntKind → IntKind → Bool
  | .i8, .i8 | .i16, .i16 | .i32, .i32 | .i64, .i64 | .u8, .u8 | .u16, .u16 | .u32, .u32 | .u64, .u64 => true
  | _, _ => false
noncomputable def eqL (x : List Nat) : List Nat → Bool :=
  List.rec (motive := fun _ => List Nat → Bool) (fun y => List.rec (motive := fun _ => Bool) true (fun _ _ _ => false) y)
    (fun a _ g y => List.rec (motive := fun _ => Bool) false (fun b y _ => Bool.rec (motive := fun _ => Bool) false (g y) (Nat.beq a b)) y) x
def bitsI (k : IntKind) (f : BitVec k.bits → BitVec k.bits → BitVec k.bits) (x y : Int) : V :=
  .int k (k.wrap (f (BitVec.ofInt k.bits x) (BitVec.ofInt k.bits y)).toNat)
def lessI : List Nat → List Nat → Bool
  | _, [] => false
  | [], _ :: _ => true
  | a :: x, b :: y => Nat.blt a b || (Nat.beq a b && lessI x y)

def isCon : Operand → Bool
  | .const _ => true
  | _ => false

noncomputable def binI (E : Env) (op : BinOp) (t : TypeId) (ox oy : Operand) (x y : V) : Option V :=
  match x, y with
  | .int k a, .int k' b =>
    match op with
    | .shl => if b < 0 then none else some (wrI k (a * 2 ^ (min b.toNat k.bits)))
    | .shr => if b < 0 then none else some (.int k (a.fdiv (2 ^ (min b.toNat k.bits))))
    | _ =>
      bif !kBeq k k' then none else
      match op with
      | .add => some (wrI k (a + b)) | .sub => some (wrI k (a - b)) | .mul => some (wrI k (a * b))
      | .quo => if b = 0 then none else some (wrI k (a.tdiv b))
      | .rem => if b = 0 then none else some (.int k (a.tmod b))
      | .and => some (bitsI k (· &&& ·) a b) | .or => some (bitsI k (· ||| ·) a b) | .xor => some (bitsI k (· ^^^ ·) a b)
      | .eql => some (.bool (eqZ a b)) | .neq => some (.bool !(eqZ a b))
      | .lss => some (.bool (ltZ a b)) | .leq => some (.bool !(ltZ b a)) | .gtr => some (.bool (ltZ b a)) | .geq => some (.bool !(ltZ a b))
      | _ => none
  | .str a, .str b =>
    match op with
    | .add => bif Nat.blt (lenN a + lenN b) 1099511627776 then some (.str (a ++ b)) else none
    | .eql => some (.bool (eqL a b)) | .neq => some (.bool !(eqL a b))
    | .lss => some (.bool (lessI a b)) | .leq => some (.bool (lessI a b || eqL a b)) | .gtr => some (.bool !(lessI a b || eqL a b)) | .geq => some (.bool !(lessI a b))
    | _ => none
  | .nilIface, .nilIface =>
    match under E t with
    | some (.interface _) => bif isCon ox || isCon oy then
        match op with
        | .eql => some (.bool true) | .neq => some (.bool false) | _ => none
      else none
    | _ => none
  | x, y =>
    match op with
    | .eql => (cmpI E t x y).map .bool
    | .neq => (cmpI E t x y).map fun b => .bool !b
    | _ => none

def unI (op : UnOp) (x : V) : Option V :=
  match op, x with
  | .neg, .int k n => some (wrI k (0 - n))
  | .not, .bool b => some (.bool !b)
  | .xor, .int k n => some (bitsI k (· ^^^ ·) (if k.signed then -1 else k.max) n)
  | _, _ => none

def natOf : V → Option Nat
  | .int _ (.ofNat n) => some n
  | _ => none

noncomputable def optV (tm : Fr) : Option Operand → Option (Option V)
  | none => some none
  | some o => (ev tm o).map some

/-- Where a slice expression begins and ends; all told. -/
def cutM (cap : Nat) (ex : Bool) : Option V → Option (Nat × Bool)
  | none => some (cap, ex)
  | some v => match natOf v with
    | some n => if n ≤ cap then some (n, true) else none
    | none => none
def cutH (len : Nat) (hi mx : Option V) : Option Nat :=
  match hi, mx with
  | some v, _ => natOf v
  | none, none => some len
  | none, some _ => none
def cutL : Option V → Option Nat
  | none => some 0
  | some v => natOf v
def cutI (len cap : Nat) (ex : Bool) (lo hi mx : Option V) : Option (Nat × Nat × Nat × Bool) :=
  match cutM cap ex mx, cutH len hi mx, cutL lo with
  | some (m, mex), some h, some l => if l ≤ h ∧ h ≤ m then some (l, h, m, mex) else none
  | _, _, _ => none

noncomputable def sliceI (E : Env) (t : TypeId) (x : V) (lo hi mx : Option V) : Option V :=
  match under E t, x with
  | some .string, .str s =>
    if mx.isSome then none else
    match cutI (lenN s) (lenN s) true lo hi none with
    | some (l, h, _, _) => ((dropN s l).bind fun r => takeN r (h - l)).map .str
    | none => none
  | some (.slice elem), .slice a len cap sz ex =>
    match cutI len cap ex lo hi mx, size E elem with
    | some (l, h, m, mex), some z =>
      if a.isSome ∧ sz ≠ z then none else
      if l = m ∧ mex = false ∧ l ≠ 0 then some .empt else
      some (.slice (if m = l ∧ mex then a else a.map (plus · (l * z))) (h - l) (m - l) z mex)
    | _, _ => none
  | _, _ => none

noncomputable def indexI (E : Env) (t : TypeId) (x i : V) : Option V :=
  match under E t, x, natOf i with
  | some (.array len elem), .agg cs, some i => bif Nat.blt i len then (size E elem).bind fun z => part E elem cs (i * z) else none
  | some .string, .str s, some i => (nth s i).map fun b : Nat => .int .u8 (.ofNat b)
  | _, _, _ => none

noncomputable def indexAddrI (E : Env) (t : TypeId) (x i : V) : Option V :=
  match under E t, x, natOf i with
  | some (.array len elem), .ptr (some a), some i => bif Nat.blt i len then (size E elem).map fun z => .ptr (some (plus a (i * z))) else none
  | some (.slice elem), .slice (some a) len _ _ _, some i => bif Nat.blt i len then (size E elem).map fun z => .ptr (some (plus a (i * z))) else none
  | _, _, _ => none

noncomputable def fieldAddrI (E : Env) (t : TypeId) (x : V) (f : Nat) : Option V :=
  match under E t, x with
  | some (.struct fs), .ptr (some a) => match nth fs.toList f with
    | some fl => match size E fl.type with
      | some (_ + 1) => some (.ptr (some (plus a fl.offset)))
      | _ => none
    | none => none
  | _, _ => none

noncomputable def fieldI (E : Env) (t : TypeId) (x : V) (f : Nat) : Option V :=
  match under E t, x with
  | some (.struct fs), .agg cs => match nth fs.toList f with
    | some fl => part E fl.type cs fl.offset
    | none => none
  | _, _ => none

noncomputable def convI (E : Env) (src dst : TypeId) (x : V) : Option V :=
  match under E src, under E dst, x with
  | some (.int _), some (.int k), .int _ n => some (wrI k n)
  | some .string, some .string, .str s => some (.str s)
  | _, _, _ => none

noncomputable def findI (s : List Nat) : List (V × V) → Option (Option V)
  | [] => some none
  | (.str k, v) :: rest => bif eqL s k then some (some v) else findI s rest
  | _ => none
noncomputable def updI (s : List Nat) (v : V) : List (V × V) → Option (List (V × V))
  | [] => some [(.str s, v)]
  | (.str k, x) :: rest => bif eqL s k then some ((.str s, v) :: rest) else (updI s v rest).map ((.str k, x) :: ·)
  | _ => none

noncomputable def lookI (E : Env) (t : TypeId) (x i : V) (ok : Bool) (st : St) : Option V :=
  match under E t with
  | some (.map key elem) =>
    match under E key, i with
    | some .string, .str s =>
      match (match x with
        | .map none => some []
        | .map (some r) => (match st.get r with | some (.map es) => some es | _ => none)
        | _ => none) with
      | some es => match findI s es with
        | some (some v) => some (if ok then .tuple [v, .bool true] else v)
        | some none => (zero E elem).map fun z => if ok then .tuple [z, .bool false] else z
        | none => none
      | none => none
    | _, _ => none
  | _ => none

noncomputable def lenI (E : Env) (t : TypeId) (x : V) (st : St) : Option V :=
  match under E t, x with
  | some .string, .str s => some (.int .i64 (.ofNat (lenN s)))
  | some (.array n _), _ => some (.int .i64 (.ofNat n))
  | some (.slice _), .slice _ n _ _ _ => some (.int .i64 (.ofNat n))
  | some (.slice _), .empt => some (.int .i64 (.ofNat 0))
  | some (.map _ _), .map none => some (.int .i64 (.ofNat 0))
  | some (.map _ _), .map (some r) => match st.get r with
    | some (.map es) => some (.int .i64 (.ofNat (lenN es)))
    | _ => none
  | _, _ => none
noncomputable def capI (E : Env) (t : TypeId) (x : V) : Option V :=
  match under E t, x with
  | some (.slice _), .slice _ _ n _ true => some (.int .i64 (.ofNat n))
  | _, _ => none

def minI (isMax : Bool) : V → List V → Option V
  | x, [] => some x
  | .int k x, .int _ y :: r => minI isMax (.int k (bif isMax then (bif ltZ x y then y else x) else (bif ltZ y x then y else x))) r
  | _, _ => none

noncomputable def assertI (E : Env) (x : V) (t : TypeId) (ok : Bool) : Option V :=
  match under E t, x with
  | some (.interface want), .iface d _ =>
    match (E.t d).map (·.ms) with
    | some ms => bif want.toList.all fun (name, sig) => ms.any fun m => m.name == name && Nat.beq m.sig sig then some (if ok then .tuple [x, .bool true] else x)
      else if ok then (zero E t).map fun z => .tuple [z, .bool false] else none
    | none => none
  | some (.interface _), .nilIface => if ok then (zero E t).map fun z => .tuple [z, .bool false] else none
  | some _, .iface d v => if d = t then some (if ok then .tuple [v, .bool true] else v)
      else if ok then (zero E t).map fun z => .tuple [z, .bool false] else none
  | some _, .nilIface => if ok then (zero E t).map fun z => .tuple [z, .bool false] else none
  | _, _ => none

/-- The operations that turn nothing. 'none': not one of them, or it can't be done. -/
noncomputable def quiet (E : Env) (tm : Fr) (o : Oper) (st : St) : Option V :=
  match o.op with
  | .move x => ev tm x
  | .assign x => ev tm x
  | .pick c a b => match ev tm c, ev tm a, ev tm b with
    | some (.bool t), some x, some y => some (if t then x else y)
    | _, _, _ => none
  | .load t a => match ev tm a with
    | some (.ptr (some a)) => ldV E t a st
    | _ => none
  | .nilCheck x => match ev tm x with
    | some (.ptr (some a)) => some (.ptr (some a))
    | some (.iface t v) => some (.iface t v)
    | some (.func f c) => some (.func f c)
    | _ => none
  | .binOp op t x y _ => match ev tm x, ev tm y with
    | some a, some b => binI E op t x y a b
    | _, _ => none
  | .unOp op _ x => (ev tm x).bind (unI op)
  | .convert s d x => (ev tm x).bind (convI E s d)
  | .makeInterface t x => match ev tm x, under E t with
    | some _, some (.interface _) => none
    | some v, some _ => some (.iface t v)
    | _, _ => none
  | .makeFunc (.func f) first captured => if first.size = 0 then (evs tm captured.toList).map (.func f ·) else none
  | .slice t x lo hi mx => match ev tm x, optV tm lo, optV tm hi, optV tm mx with
    | some v, some l, some h, some m => sliceI E t v l h m
    | _, _, _, _ => none
  | .fieldAddr t x f => (ev tm x).bind fun v => fieldAddrI E t v f
  | .field t x f => (ev tm x).bind fun v => fieldI E t v f
  | .indexAddr t x i => match ev tm x, ev tm i with
    | some v, some w => indexAddrI E t v w
    | _, _ => none
  | .index t x i => match ev tm x, ev tm i with
    | some v, some w => indexI E t v w
    | _, _ => none
  | .lookup t x i ok => match ev tm x, ev tm i with
    | some v, some w => lookI E t v w ok st
    | _, _ => none
  | .typeAssert x _ t ok => (ev tm x).bind fun v => assertI E v t ok
  | .extract t i => match ev tm t with
    | some (.tuple vs) => vs[i]?
    | _ => none
  | .call { callee := .builtin .len, args, argTypes } => match args.toList, argTypes[0]? with
    | [x], some t => (ev tm x).bind fun v => lenI E t v st
    | _, _ => none
  | .call { callee := .builtin .cap, args, argTypes } => match args.toList, argTypes[0]? with
    | [x], some t => (ev tm x).bind fun v => capI E t v
    | _, _ => none
  | .call { callee := .builtin .min, args, .. } => match evs tm args.toList with
    | some (x :: r) => minI false x r
    | _ => none
  | .call { callee := .builtin .max, args, .. } => match evs tm args.toList with
    | some (x :: r) => minI true x r
    | _ => none
  | .call { callee := .builtin .unsafeSliceData, args, .. } => match evs tm args.toList with
    | some [.slice none _ _ _ _] => some (.ptr none)
    | some [.slice (some a) _ (_ + 1) _ _] => some (.ptr (some a))
    | _ => none
  | _ => none

def isQuiet (o : Oper) : Bool :=
  match o.op with
  | .move _ | .pick .. | .load .. | .nilCheck _ | .binOp .. | .unOp .. | .makeInterface .. | .makeFunc .. | .slice .. | .fieldAddr .. | .field .. | .indexAddr .. | .index ..
  | .lookup .. | .typeAssert .. | .extract .. => true
  | .convert .. => false
  | .call { callee := .builtin b, .. } => match b with | .len | .cap | .min | .max | .unsafeSliceData => true | _ => false
  | _ => false

/-- A new block. -/
noncomputable def newI (st : St) (o : O) : V × St := (.ptr (some (st.nx, 0)), st.new o)

/-- What is appended: how many there are, their cells. -/
noncomputable def srcA (z : Nat) (x : V) (st : St) : Option (Nat × List V) :=
  match x with
  | .slice (some a) n _ sz2 _ => if sz2 = z then (st.rd a (n * z)).map fun l => (n, l) else none
  | .slice none n _ _ _ => if n = 0 then some (0, []) else none
  | .empt => some (0, [])
  | .str s => if z = 1 then some (lenN s, s.map fun b : Nat => .int .u8 (.ofNat b)) else none
  | _ => none
/-- What is copied. -/
noncomputable def srcC (z lim : Nat) (x : V) (st : St) : Option (Nat × List V) :=
  match x with
  | .slice (some a) n _ sz2 _ => if sz2 = z then (st.rd a (min n lim * z)).map fun l => (min n lim, l) else none
  | .slice none n _ _ _ => if n = 0 then some (0, []) else none
  | .empt => some (0, [])
  | .str s => some (min (lenN s) lim, (s.take (min (lenN s) lim)).map fun b : Nat => .int .u8 (.ofNat b))
  | _ => none
def okD : TypeDesc → Bool
  | .slice _ => true
  | .string => true
  | _ => false

noncomputable def appendA (elem : TypeId) (z by_ : Nat) (base : Option (Nat × Nat)) (len cap sz : Nat) (ex : Bool) (n : Nat) (new : List V) (st : St) : Option (V × St) :=
  if by_ = 0 ∨ (base.isSome ∧ sz ≠ z) then none else
  if (len + n) * by_ > 2 ^ 40 then none else
  if len + n ≤ cap then
    match base with
    | some a => match st.wr (plus a (len * z)) new with
      | some st => some (.slice (some a) (len + n) cap sz ex, st)
      | none => none
    | none => some (.slice none (len + n) cap sz ex, st)
  else
    match base with
    | none => if len = 0 then some (.slice (some (st.nx, 0)) (len + n) (len + n) z false, st.new (.cells new elem false false)) else none
    | some a =>
      match st.get a.1, st.rd a (len * z) with
      | some (.cells _ el _ fz), some old =>
        if ex then some (.slice (some (st.nx, 0)) (len + n) (len + n) z false, st.new (.cells (old ++ new) elem false false))
        else if fz ∨ el ≠ elem then none
        else bif ones new then some (.slice (some (st.nx, 0)) (len + n) (len + n) z false, (st.kill a.1).new (.cells (old ++ new) elem false false)) else none
      | _, _ => none

noncomputable def appendI (E : Env) (argTypes : List TypeId) (args : List V) (st : St) : Option (V × St) :=
  match argTypes, args with
  | t :: t2 :: _, [.slice base len cap sz ex, x] =>
    match under E t, under E t2 with
    | some (.slice elem), some d2 =>
      match okD d2, size E elem, bytes E elem, zero E elem with
      | true, some z, some by_, some _ =>
        match srcA z x st with
        | some (n, new) => appendA elem z by_ base len cap sz ex n new st
        | none => none
      | _, _, _, _ => none
    | _, _ => none
  | _, _ => none

noncomputable def copyI (E : Env) (argTypes : List TypeId) (args : List V) (st : St) : Option (V × St) :=
  match argTypes, args with
  | t :: _, [.slice base dl _ sz _, x] =>
    match under E t with
    | some (.slice elem) => match size E elem with
      | some z =>
        if base.isSome ∧ sz ≠ z then none else
        match srcC z dl x st with
        | none => none
        | some (n, new) => match base with
          | some a => match st.wr a new with
            | some st => some (.int .i64 (.ofNat n), st)
            | none => none
          | none => some (.int .i64 (.ofNat n), st)
      | none => none
    | _ => none
  | _, _ => none

def bytesI : List V → Option (List Nat)
  | [] => some []
  | .int .u8 n :: r => if 0 ≤ n ∧ n < 256 then (bytesI r).map (n.toNat :: ·) else none
  | _ => none

noncomputable def partsI (tm : Fr) : List (Nat × Operand) → Option (List (Nat × V))
  | [] => some []
  | (i, x) :: r => match ev tm x, partsI tm r with
    | some v, some l => some ((i, v) :: l)
    | _, _ => none

/-- The operations that turn memory, but call nothing: what they yield, and the state behind them. -/
noncomputable def loud (E : Env) (tm : Fr) (o : Oper) (st : St) : Option (V × St) :=
  match o.op with
  | .alloc t => match zero E t with
    | some z => some (newI st (.cells z.cells t true false))
    | none => none
  | .box t x => match (ev tm x).bind V.told with
    | some l => some (newI st (.cells l t true false))
    | none => none
  | .build t parts => match under E t, zero E t, partsI tm parts.toList with
    | some (.struct fs), some z, some ps =>
      (fillI (fun i => (fs[i]?).bind fun f => (size E f.type).map fun s => (f.offset, s)) z.cells ps).map fun cs => (.agg cs, st)
    | some (.array _ elem), some z, some ps => match size E elem with
      | some s => (fillI (fun i => some (i * s, s)) z.cells ps).map fun cs => (.agg cs, st)
      | none => none
    | _, _, _ => none
  | .buildSlice t len parts => match under E t, partsI tm parts.toList with
    | some (.slice elem), some ps => match size E elem, zero E elem with
      | some s, some z => if len * s > 2 ^ 20 then none else
        match fillI (fun i => some (i * s, s)) (repeatI z.cells len) ps with
        | some cs => some (.slice (some (st.nx, 0)) len len s true, st.new (.cells cs elem true false))
        | none => none
      | _, _ => none
    | _, _ => none
  | .makeSlice t l c => match under E t, ev tm l, ev tm c with
    | some (.slice elem), some (.int .i64 a), some (.int .i64 b) => match size E elem, bytes E elem, zero E elem with
      | some s, some by_, some z =>
        if 0 ≤ a ∧ a ≤ b ∧ b * by_ ≤ 2 ^ 30 ∧ b ≤ 2 ^ 30 then
          some (.slice (some (st.nx, 0)) a.toNat b.toNat s true, st.new (.cells (repeatI z.cells b.toNat) elem true false))
        else none
      | _, _, _ => none
    | _, _, _ => none
  | .store t a x => match ev tm a, (ev tm x).bind V.told, size E t with
    | some (.ptr (some a)), some l, some n => bif Nat.beq (lenN l) n then (st.wr a l).map fun st => (und, st) else none
    | _, _, _ => none
  | .makeMap _ none => some (.map (some st.nx), st.new (.map []))
  | .mapUpdate t m k x => match under E t with
    | some (.map key _) => match under E key, ev tm m, ev tm k, ev tm x with
      | some .string, some (.map (some r)), some (.str s), some v => match st.get r with
        | some (.map es) => (updI s v es).map fun es => (und, st.put r (.map es))
        | _ => none
      | _, _, _, _ => none
    | _ => none
  | .convert s d x => match ev tm x with
    | some v => match convI E s d v with
      | some w => some (w, st)
      | none => match under E s, under E d, v with
        | some .string, some (.slice elem), .str l => match under E elem, size E elem with
          | some (.int .u8), some 1 => if l.length > 2 ^ 40 then none else some (.slice (some (st.nx, 0)) l.length l.length 1 false, st.new (.cells (l.map fun b : Nat => .int .u8 (.ofNat b)) elem false false))
          | _, _ => none
        | some (.slice elem), some .string, .slice (some a) len _ _ _ => match under E elem with
          | some (.int .u8) => match (st.rd a len).bind bytesI with
            | some l => some (.str l, st)
            | none => none
          | _ => none
        | some (.slice elem), some .string, .slice none _ _ _ _ => match under E elem with
          | some (.int .u8) => some (.str [], st)
          | _ => none
        | some (.pointer _), some .unsafePointer, .ptr none => some (.ptr none, st)
        | some (.pointer t), some .unsafePointer, .ptr (some a) => match size E t, st.get a.1 with
          | some (_ + 1), some (.cells vs _ _ _) => if a.2 < vs.length then some (.ptr (some a), st) else none
          | _, _ => none
        | some .unsafePointer, some (.pointer _), .ptr none => some (.ptr none, st)
        | some .unsafePointer, some (.pointer u), .ptr (some a) => match size E u, st.get a.1 with
          | some (_ + 1), some (.cells vs e true _) => if liesAt E.P E.P.depth e (vs.length / E.P.cellsOf e) a.2 u 1 then some (.ptr (some a), st) else none
          | _, _ => none
        | _, _, _ => none
    | none => none
  | .range t x => match under E t, ev tm x with
    | some (.map _ _), some (.map (some m)) => match st.get m with
      | some (.map []) => some (.ptr (some (st.nx, 0)), st.new (.iter m))
      | _ => none
    | _, _ => none
  | .next it false => match ev tm it with
    | some (.ptr (some (r, 0))) => match st.get r with
      | some (.iter m) => match st.get m with
        | some (.map []) => some (.tuple [.bool false], st)
        | _ => none
      | _ => none
    | _ => none
  | .call { callee := .builtin .append, args, argTypes } => (evs tm args.toList).bind fun vs => appendI E argTypes.toList vs st
  | .call { callee := .builtin .copy, args, argTypes } => (evs tm args.toList).bind fun vs => copyI E argTypes.toList vs st
  | .call { callee := .builtin .unsafeString, args, argTypes } => match evs tm args.toList, argTypes[0]? with
    | some [.ptr none, .int _ 0], some _ => some (.str [], st)
    | some [.ptr (some a), .int _ n], some pt =>
      if n = 0 then some (.str [], st) else
      match under E pt, st.get a.1 with
      | some (.pointer u), some (.cells vs e ex false) =>
        if e = u ∧ 0 ≤ n ∧ n ≤ 2 ^ 40 then
          match under E e, size E e, (st.rd a n.toNat).bind bytesI with
          | some (.int .u8), some 1, some l => some (.str l, st.put a.1 (.cells vs e ex true))
          | _, _, _ => none
        else none
      | _, _ => none
    | _, _ => none
  | _ => (quiet E tm o st).map fun v => (v, st)

end Go.Ri
namespace Go.Ri

mutual
def V.same : V → V → Bool
  | .bool a, .bool b => a == b
  | .int k a, .int l b => k == l && decide (a = b)
  | .str a, .str b => a == b
  | .ptr a, .ptr b => a == b
  | .slice a l c s e, .slice a' l' c' s' e' => a == a' && l == l' && c == c' && s == s' && e == e'
  | .map a, .map b => a == b
  | .func f a, .func g b => f == g && V.sames a b
  | .nilFunc, .nilFunc => true
  | .iface t a, .iface u b => t == u && V.same a b
  | .nilIface, .nilIface => true
  | .empt, .empt => true
  | .agg a, .agg b => V.sames a b
  | .tuple a, .tuple b => V.sames a b
  | .hole, .hole => true
  | _, _ => false
def V.sames : List V → List V → Bool
  | [], [] => true
  | a :: x, b :: y => V.same a b && V.sames x y
  | _, _ => false
end

def pairsSame : List (V × V) → List (V × V) → Bool
  | [], [] => true
  | (a, b) :: x, (c, d) :: y => a.same c && b.same d && pairsSame x y
  | _, _ => false
def O.same : O → O → Bool
  | .cells a e x f, .cells b e' x' f' => e == e' && x == x' && f == f' && V.sames a b
  | .map a, .map b => pairsSame a b
  | .iter m, .iter n => m == n
  | _, _ => false
def oSame : Option O → Option O → Bool
  | none, none => true
  | some a, some b => a.same b
  | _, _ => false
def T.same : TT (Option O) → TT (Option O) → Bool
  | .e, .e => true
  | .n l v r, .n l' v' r' => oSame v v' && T.same l l' && T.same r r'
  | _, _ => false
def St.same (a b : St) : Bool := Nat.beq a.nx b.nx && T.same a.h b.h

/-- A question that asks the program alone. -/
def prun (P : Program) {α : Type} : Sem α → Option α
  | .pure a => some a
  | .program k => prun P (k P)
  | _ => none

def handleI (E : Env) (t : TypeId) : V := .ptr (some (E.P.globals.size, t))
def ofHandleI (E : Env) : V → Option TypeId
  | .ptr (some (b, t)) => bif Nat.beq b E.P.globals.size then some t else none
  | _ => none
def toTypeI (E : Env) (t : TypeId) : Option V :=
  (E.P.cutTypes.find? (·.1 == "internal/reflectlite.rtype")).map fun r => .iface r.2 (.agg [handleI E t])

noncomputable def methodI (E : Env) (t : TypeId) (v : V) (name : String) : Option (FuncId × V) :=
  match (E.t t).bind fun i => i.ms.find? (·.name == name) with
  | some m =>
    let x := match m.path.toList, v with
      | [], v => some (t, v)
      | [s], .agg cs => match s.deref, under E s.struct with
        | false, some (.struct fs) => match nth fs.toList s.index with
          | some f => (part E f.type cs f.offset).map fun x => (f.type, x)
          | none => none
        | _, _ => none
      | _, _ => none
    match x, m.func with
    | some (xt, x), some (f, pr) => match under E xt, pr with
      | some (.pointer _), true => some (f, x)
      | some (.pointer _), false => none
      | some _, false => some (f, x)
      | _, _ => none
    | _, _ => none
  | none => none

def idxI (c : Nat) : List Nat → Nat → Option Nat
  | [], _ => none
  | a :: l, i => bif Nat.beq a c then some i else idxI c l (i + 1)
def cntI (c : Nat) : List Nat → Nat → Nat
  | [], n => n
  | a :: l, n => bif Nat.beq a c then cntI c l (n + 1) else cntI c l n

/-- A function without a body. -/
noncomputable def extI (E : Env) (c : Nat) (fn : Func) (args : List V) (st : St) : Option (V × St) :=
  bif Nat.beq c 1 then
    match args with
    | [.str s, .int .u8 (.ofNat c)] => bif Nat.blt c 256 then some (.int .i64 (match idxI c s 0 with | some i => .ofNat i | none => .negSucc 0), st) else none
    | _ => none
  else bif Nat.beq c 2 then
    match args with
    | [.str s, .int .u8 (.ofNat c)] => bif Nat.blt c 256 then some (.int .i64 (.ofNat (cntI c s 0)), st) else none
    | _ => none
  else bif Nat.beq c 3 then
    match args with
    | [x] => some (x, st)
    | _ => none
  else bif Nat.beq c 4 then
    match args, (fn.resultTypes[0]?).bind (under E) with
    | [.int .i64 n], some (.slice elem) => match size E elem with
      | some 1 => if 0 ≤ n ∧ n ≤ 2 ^ 40 then some (.slice (some (st.nx, 0)) n.toNat n.toNat 1 false, st.new (.cells (List.replicate n.toNat .hole) elem false false)) else none
      | _ => none
    | _, _ => none
  else bif Nat.beq c 5 then
    match args with
    | [.iface t v] => match prun E.P (Extern.Rtype.kind t), v.told with
      | some k, some l => some (.agg [handleI E t, .ptr (some (st.nx, 0)), .int .u64 (.ofNat (k + 128))], st.new (.cells l t true false))
      | _, _ => none
    | _ => none
  else bif Nat.beq c 6 then
    match args with
    | [.iface t _] => (toTypeI E t).map fun v => (v, st)
    | _ => none
  else bif Nat.beq c 7 then
    match args with
    | [.agg [h, .ptr (some _), .int .u64 fl]] => if fl = 0 then none else ((ofHandleI E h).bind (toTypeI E)).map fun v => (v, st)
    | _ => none
  else bif Nat.beq c 8 then
    match args with
    | [.agg [h, .ptr (some a), .int .u64 fl]] => if fl = 0 then none else
      match ofHandleI E h with
      | some t => if E.P.packed t ∨ fl.toNat % 32 ≠ 22 then none else
        match ldV E t a st with
        | some (.ptr p) => some (.bool p.isNone, st)
        | _ => none
      | none => none
    | _ => none
  else bif Nat.beq c 9 then
    match args with
    | [.agg [h, .ptr (some a), .int .u64 fl]] => if fl = 0 then none else
      match ofHandleI E h with
      | some t => if E.P.packed t ∨ fl.toNat % 32 ≠ 22 then none else
        match ldV E t a st, prun E.P (Extern.Rtype.elem? t) with
        | some (.ptr (some p)), some (some e) => match prun E.P (Extern.Rtype.kind e) with
          | some k => some (.agg [handleI E e, .ptr (some p), .int .u64 (.ofNat (k + 128 + 256))], st)
          | none => none
        | _, _ => none
      | none => none
    | _ => none
  else bif Nat.beq c 10 then
    match args with
    | [.agg [h, .ptr (some a), .int .u64 fl], .agg [h', .ptr (some b), .int .u64 fl']] => if fl = 0 ∨ fl' = 0 then none else
      match ofHandleI E h, ofHandleI E h' with
      | some t, some u => if E.P.packed t ∨ E.P.packed u ∨ fl.toNat / 256 % 2 = 0 then none else
        match ldV E u b st, prun E.P (Extern.Rtype.directlyAssignable t u), size E t with
        | some v, some true, some n => match v.told with
          | some l => bif Nat.beq (lenN l) n then (st.wr a l).map fun st => (.tuple [], st) else none
          | none => none
        | _, _, _ => none
      | _, _ => none
    | _ => none
  else bif Nat.beq c 11 then
    match args with
    | [.agg [h]] => match ofHandleI E h with
      | some t => if E.P.packed t then none else match prun E.P (Extern.Rtype.elem? t) with
        | some (some e) => (toTypeI E e).map fun v => (v, st)
        | _ => none
      | none => none
    | _ => none
  else bif Nat.beq c 12 then
    match args with
    | [.agg [h], .iface _ (.agg [h'])] => match ofHandleI E h, ofHandleI E h' with
      | some t, some u => if E.P.packed t ∨ E.P.packed u then none else match prun E.P (Extern.ReflectliteType.implements_ u t) with
        | some b => some (.bool b, st)
        | none => none
      | _, _ => none
    | _ => none
  else bif Nat.beq c 13 then
    match args with
    | [.agg [h], .iface _ (.agg [h'])] => match ofHandleI E h, ofHandleI E h' with
      | some t, some u => if E.P.packed t ∨ E.P.packed u then none else match prun E.P (Extern.ReflectliteType.assignableTo u t) with
        | some b => some (.bool b, st)
        | none => none
      | _, _ => none
    | _ => none
  else bif Nat.beq c 14 then
    match args with
    | [h] => match ofHandleI E h with
      | some t => if E.P.packed t then none else match prun E.P (Extern.Rtype.kind t) with
        | some k => some (.int .u8 (.ofNat k), st)
        | none => none
      | none => none
    | _ => none
  else none

abbrev CF := Nat → List V → St → Option (V × St)

/-- One operation. -/
noncomputable def step1 (E : Env) (cf : CF) (tm : Fr) (o : Oper) (st : St) : Option (V × St) :=
  match o.op with
  | .call { callee := .value f, args, .. } => match ev tm f, evs tm args.toList with
    | some (.func fid cap), some as => cf fid (as ++ cap) st
    | _, _ => none
  | .call { callee := .invoke r name, args, .. } => match ev tm r, evs tm args.toList with
    | some (.iface t v), some as => match methodI E t v name with
      | some (fid, x) => cf fid (x :: as) st
      | none => none
    | _, _ => none
  | _ => loud E tm o st

noncomputable def putT (tm : Fr) (d : Option Tmp) (v : V) : Option Fr :=
  match d with
  | some d => Fr.rec (motive := fun _ => Option Fr) (fun n t => Bool.rec (motive := fun _ => Option Fr) none (some ⟨n, t.set v d⟩) (Nat.ble (Nat.succ d) n)) tm
  | none => some tm

noncomputable def wantI (ops : List Oper) (tm : Fr) (o : Oper) : Option Bool :=
  match o.guard with
  | none => some true
  | some (j, want) => match (nth ops j).bind (·.dst) with
    | none => some false
    | some d => match tm.t.get und d with
      | .bool b => some (b == want)
      | .hole => none
      | _ => some false

/-- A region in the order of the text. -/
noncomputable def opsI (E : Env) (cf : CF) (ops : List Oper) : List Oper → Fr → St → Option (Fr × St)
  | [], tm, st => some (tm, st)
  | o :: r, tm, st =>
    match wantI ops tm o with
    | some true => match step1 E cf tm o st with
      | some (v, st) => match putT tm o.dst v with
        | some tm => opsI E cf ops r tm st
        | none => none
      | none => none
    | some false => match putT tm o.dst und with
      | some tm => opsI E cf ops r tm st
      | none => none
    | none => none

/-- An operation of a region that draws its order: its number, what comes ahead of it, is it quiet, what it sees, is it wanted, what it yields. -/
structure It where
  k : Nat
  m : Nat
  q : Bool
  o : Oper
  tm : Fr
  w : Bool
  v : V

/-- Is it a call of a function? (Else it makes one block at most.) -/
def isCall (o : Oper) : Bool :=
  match o.op with
  | .call { callee := .value _, .. } | .call { callee := .invoke .., .. } => true
  | _ => false

/-- One operation of such a region: a block that it makes bears the name 'nm'. -/
noncomputable def stepD (E : Env) (cf : CF) (tm : Fr) (o : Oper) (nm : Nat) (st : St) : Option (V × St) :=
  bif isCall o then step1 E cf tm o st
  else match step1 E cf tm o { st with nx := nm } with
    | some (v, s) => some (v, { s with nx := st.nx })
    | none => none

noncomputable def bitN (m k : Nat) : Bool := Nat.beq (Nat.land 1 (Nat.shiftRight m k)) 1
/-- The frame behind the operations in a set. -/
noncomputable def seen (tm : Fr) (its : List It) (m : Nat) : Option Fr :=
  match its with
  | [] => some tm
  | i :: r => match seen tm r m with
    | some tm => Bool.rec (motive := fun _ => Option Fr) (some tm) (putT tm i.o.dst i.v) (bitN m i.k)
    | none => none

/-- All that must come ahead of an operation: the ones behind it are in 'its'. -/
def ahead (its : List It) (es : List Edge) : Nat → Nat
  | m => es.foldl (fun m e => bif Region.binds .any e then m ||| 2 ^ e.on ||| (match its.find? (fun i => Nat.beq i.k e.on) with | some i => i.m | none => 0) else m) m

/-- The first pass, in the order of the text: what each yields (the newest first). -/
noncomputable def items (E : Env) (cf : CF) (ops : List Oper) (tm : Fr) (nx0 : Nat) : List Oper → Nat → List It → St → Option (List It)
  | o :: r, k, its, st =>
    let m := ahead its o.after.toList 0
    match seen tm its m with
    | none => none
    | some tk =>
    match wantI ops tk o with
    | some true => match stepD E cf tk o (nx0 + k) st with
      | some (v, st) => items E cf ops tm nx0 r (k + 1) ({ k, m, q := isQuiet o, o, tm := tk, w := true, v } :: its) st
      | none => none
    | some false => items E cf ops tm nx0 r (k + 1) ({ k, m, q := true, o, tm := tk, w := false, v := und } :: its) st
    | none => none
  | [], _, its, _ => some its

/-- No operation in 'm' has 'k' ahead of it. -/
noncomputable def noneBit (m k : Nat) (its : List It) : Bool :=
  List.rec (motive := fun _ => Bool) true (fun j _ g => Bool.rec (motive := fun _ => Bool) g (Bool.rec (motive := fun _ => Bool) g false (bitN j.m k)) (bitN m j.k)) its
noncomputable def enabled (nq : Nat) (its : List It) (i : It) (m : Nat) : Bool :=
  bif Nat.beq (Nat.land (Nat.land i.m nq) m) (Nat.land i.m nq) then (bif bitN m i.k then false else noneBit m i.k its) else false

noncomputable def stepIt (E : Env) (cf : CF) (nx0 : Nat) (i : It) (s : St) : Option St :=
  bif !i.w then some s
  else bif i.q then match quiet E i.tm i.o s with
    | some v => bif v.same i.v then some s else none
    | none => none
  else match stepD E cf i.tm i.o (nx0 + i.k) s with
    | some (v, s) => bif v.same i.v then some s else none
    | none => none

def addNode (m : Nat) (s : St) : List (Nat × St) → Option (List (Nat × St))
  | [] => some [(m, s)]
  | (m', s') :: r => bif Nat.beq m m' then (bif s.same s' then some ((m', s') :: r) else none) else (addNode m s r).map ((m', s') :: ·)

/-- From one node: the quiet ones yield what they must; the others lead on. -/
noncomputable def fromNode (E : Env) (cf : CF) (nx0 nq : Nat) (all : List It) (m : Nat) (s : St) : List It → List (Nat × St) → Option (List (Nat × St))
  | [], acc => some acc
  | i :: r, acc =>
    bif enabled nq all i m then
      match stepIt E cf nx0 i s with
      | none => none
      | some s' => bif i.q then fromNode E cf nx0 nq all m s r acc
        else match addNode (m ||| 2 ^ i.k) s' acc with
          | some acc => fromNode E cf nx0 nq all m s r acc
          | none => none
    else fromNode E cf nx0 nq all m s r acc

noncomputable def layer (E : Env) (cf : CF) (nx0 nq : Nat) (all : List It) : List (Nat × St) → List (Nat × St) → Option (List (Nat × St))
  | [], acc => some acc
  | (m, s) :: r, acc => match fromNode E cf nx0 nq all m s all acc with
    | some acc => layer E cf nx0 nq all r acc
    | none => none

noncomputable def layers (E : Env) (cf : CF) (nx0 nq : Nat) (all : List It) : Nat → List (Nat × St) → Option St
  | 0, l => match layer E cf nx0 nq all l [], l with
    | some _, [(_, s)] => some s
    | _, _ => none
  | n + 1, l => match layer E cf nx0 nq all l [] with
    | some l => layers E cf nx0 nq all n l
    | none => none

def tmpsOf (l : List Operand) : List Nat := l.filterMap fun | .tmp t => some t | _ => none

noncomputable def allN {α : Type} (p : α → Bool) (l : List α) : Bool := List.rec (motive := fun _ => Bool) true (fun a _ g => Bool.rec (motive := fun _ => Bool) false g (p a)) l
noncomputable def memN (d : Nat) (l : List Nat) : Bool := List.rec (motive := fun _ => Bool) false (fun a _ g => Bool.rec (motive := fun _ => Bool) g true (Nat.beq a d)) l
noncomputable def other (i j : It) (d : Nat) : Bool :=
  match i.o.dst with
  | none => true
  | some x => bif Nat.beq x d then Nat.beq i.k j.k else true
/-- What an operation looks at is written by what comes ahead of it, or behind it; no two write one temporary; edges lead back. -/
noncomputable def sound (ops : List Oper) (its : List It) : Bool :=
  allN (fun i =>
    let r := tmpsOf i.o.op.operands.toList ++ (match i.o.guard with | some (g, _) => ((nth ops g).bind (·.dst)).toList | none => [])
    bif allN (fun j => match j.o.dst with
      | none => true
      | some d => bif memN d r then (bif bitN i.m j.k then other i j d else bif bitN j.m i.k then other i j d else false) else other i j d) its
    then allN (fun e => bif Region.binds .any e then Nat.ble (Nat.succ e.on) i.k else true) i.o.after.toList else false) its

noncomputable def drawI (E : Env) (cf : CF) (ops : Array Oper) (tm : Fr) (st : St) : Option (Fr × St) :=
  let l := ops.toList
  let nx0 := st.nx
  let st1 : St := { st with nx := nx0 + lenN l }
  match items E cf l tm nx0 l 0 [] st1 with
  | none => none
  | some its =>
    let nqs := its.filter fun i => !i.q
    let nq := nqs.foldl (fun m i => m ||| 2 ^ i.k) 0
    bif sound l its then
      match layers E cf nx0 nq its nqs.length [(0, st1)], seen tm its (2 ^ lenN l - 1) with
      | some s, some tm => some (tm, s)
      | _, _ => none
    else none

inductive X where
  | nrm
  | exit (id : Nat)
  | ret

noncomputable def resI (E : Env) (st : St) (tm : Fr) : List ResultVar → Option (List V)
  | [] => some []
  | .tmp t :: r => (resI E st tm r).map (tm.t.get und t :: ·)
  | .cell a t :: r => match tm.t.get und a with
    | .ptr (some a) => match ldV E t a st, resI E st tm r with
      | some v, some l => some (v :: l)
      | _, _ => none
    | _ => none

noncomputable def loopI (body : Fr → St → Option (X × Fr × St)) : Nat → Fr → St → Option (X × Fr × St)
  | 0, _, _ => none
  | n + 1, tm, st => match body tm st with
    | some (.nrm, tm, st) => loopI body n tm st
    | r => r

noncomputable def run (E : Env) (cf : CF) : Code → Fr → St → Option (X × Fr × St)
  | .skip, tm, st => some (.nrm, tm, st)
  | .label _, tm, st => some (.nrm, tm, st)
  | .ret, tm, st => some (.ret, tm, st)
  | .exit i, tm, st => some (.exit i, tm, st)
  | .seq a b, tm, st => match run E cf a tm st with
    | some (.nrm, tm, st) => run E cf b tm st
    | r => r
  | .cond c a b, tm, st => match ev tm c with
    | some (.bool true) => run E cf a tm st
    | some (.bool false) => run E cf b tm st
    | _ => none
  | .block i c, tm, st => match run E cf c tm st with
    | some (.exit j, tm, st) => bif Nat.beq j i then some (.nrm, tm, st) else some (.exit j, tm, st)
    | r => r
  | .scope c, tm, st => run E cf c tm st
  | .loop c, tm, st => loopI (run E cf c) 1000 tm st
  | .region _ ops d, tm, st => match (bif d then drawI E cf ops tm st else opsI E cf ops.toList ops.toList tm st) with
    | some (tm, st) => some (.nrm, tm, st)
    | none => none
  | _, _, _ => none

noncomputable def fill (_n : Nat) : List V → Nat → TT V → TT V
  | [], _, t => t
  | a :: l, k, t => fill _n l (k + 1) (t.set a k)

noncomputable def call (E : Env) : Nat → CF
  | 0 => fun _ _ _ => none
  | n + 1 => fun f args st =>
    match E.fn.get none f with
    | none => none
    | some fn => match fn.body with
      | none => extI E (((E.ex.get none f).getD 0)) fn args st
      | some c =>
        bif Nat.ble (lenN args) fn.ntmps && Nat.blt fn.ntmps 255 then
          match run E (call E n) c { n := fn.ntmps, t := fill 0 args 0 (TT.full und 8) } st with
          | some (.nrm, tm, st) => (resI E st tm fn.results.toList).map fun l => ((match l with | [v] => v | l => .tuple l), st)
          | some (.ret, tm, st) => (resI E st tm fn.results.toList).map fun l => ((match l with | [v] => v | l => .tuple l), st)
          | _ => none
        else none

/-! ### Tables -/
noncomputable def laid {α : Type} (l : List (Nat × α)) (d : TT (Option α)) : TT (Option α) := match l with | [] => d | (k, a) :: r => (laid r d).set (some a) k
def mkTy (i u : TypeInfo) : Ty := { d := u.desc, sz := i.size, by_ := i.bytes, z := i.zero.bind ofConst, ms := i.methods.toList }

end Go.Ri
