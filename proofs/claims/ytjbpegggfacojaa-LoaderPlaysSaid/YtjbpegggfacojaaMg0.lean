/- What the row leans on, part 0: texts one behind the other. No condition. -/
import Derived.Calls
/- GX: an abstract machine over the model's own code: definitions. -/

namespace GX
noncomputable section
open Go

/-- a slice's capacity: known; or up to its block's end, whatever that is, of elements of so many cells -/
inductive Cap where
  | ex (k : Nat)
  | op (esz : Nat)
  deriving Inhabited
inductive AV where
  | bool (b : Bool)
  | int (k : IntKind) (n : Int)
  | str (s : List Nat)
  | ptr (b o : Nat)
  | nilp
  | slice (b o len : Nat) (cap : Cap)
  | emp
  | nils
  | map (r : Nat)
  | nilm
  | func (fn : Fn) (first captured : List AV)
  | nilf
  | iface (t : TypeId) (v : AV)
  | nili
  | agg (cs : List AV)
  | tup (vs : List AV)
  | sym (k : IntKind) (i : Nat)
  /-- a slice that is only read: its cells, its length, an element's cells; and a pointer into such cells -/
  | rsl (cs : List AV) (len sz : Nat)
  | rptr (cs : List AV) (o : Nat)
  deriving Inhabited

inductive AB where
  | cells (t : TypeId) (cs : List AV) (sp : Bool)
  | map (es : List (AV × AV × Nat)) (clock : Nat)
  | sit (s : List Nat) (pos : Nat)
  deriving Inhabited

inductive Tr (α : Type) where
  | leaf
  | node (l : Tr α) (v : Option α) (r : Tr α)
  deriving Inhabited

namespace Tr
variable {α : Type}
/-- a number's halves: 'z' at 0, 'l' at 1, 3, 5 .., 'r' at 2, 4, 6 .. -/
def get (t : Tr α) : Nat → Option α :=
  Tr.rec (motive := fun _ => Nat → Option α) (fun _ => none)
    (fun _ v _ gl gr n => Nat.rec (motive := fun _ => Option α) v (fun m _ => Bool.rec (motive := fun _ => Option α) (gl (Nat.div m 2)) (gr (Nat.div m 2)) (Nat.beq (Nat.mod m 2) 1)) n) t
def set (f : Nat) : Tr α → Nat → α → Tr α :=
  Nat.rec (motive := fun _ => Tr α → Nat → α → Tr α) (fun t _ _ => t)
    (fun _ ih t n x => Tr.rec (motive := fun _ => Tr α)
      (Nat.rec (motive := fun _ => Tr α) (.node .leaf (some x) .leaf) (fun m _ => Bool.rec (motive := fun _ => Tr α) (.node (ih .leaf (Nat.div m 2) x) none .leaf) (.node .leaf none (ih .leaf (Nat.div m 2) x)) (Nat.beq (Nat.mod m 2) 1)) n)
      (fun l v r _ _ => Nat.rec (motive := fun _ => Tr α) (.node l (some x) r) (fun m _ => Bool.rec (motive := fun _ => Tr α) (.node (ih l (Nat.div m 2) x) v r) (.node l v (ih r (Nat.div m 2) x)) (Nat.beq (Nat.mod m 2) 1)) n) t) f
def del (t : Tr α) : Nat → Tr α :=
  Tr.rec (motive := fun _ => Nat → Tr α) (fun _ => .leaf)
    (fun l v r dl dr n => Nat.rec (motive := fun _ => Tr α) (.node l none r) (fun m _ => Bool.rec (motive := fun _ => Tr α) (.node (dl (Nat.div m 2)) v r) (.node l v (dr (Nat.div m 2))) (Nat.beq (Nat.mod m 2) 1)) n) t
end Tr

abbrev Env := Tr AV
structure St where
  h : Tr AB
  n : Nat
  deriving Inhabited

/-- What a type is to the abstract machine. -/
structure TI where
  size : Nat
  bytes : Nat
  desc : TypeDesc
  zero : List AV
  deriving Inhabited

structure X where
  ti : Nat → Option TI
  fn : Nat → Option Func
  eqs : Nat → Bool      -- structs that may be compared
  ext : Nat → Option (List AV → St → Option (AV × St))

def depth : Nat := 39
def Env.put (e : Env) (d : Nat) (v : AV) : Env := Tr.set 40 e d v
def Env.at (e : Env) (t : Nat) : AV := match Tr.get e t with | some v => v | none => .tup []

mutual
def ofVal : Nat → Value → Option AV
  | _, .bool b => some (.bool b)
  | _, .int k n => some (.int k n)
  | _, .string s => some (.str (s.data.toList.map (·.toNat)))
  | _, .pointer none => some .nilp
  | _, .slice none 0 0 => some .nils
  | _, .map none => some .nilm
  | _, .nilFunc => some .nilf
  | _, .nilIface => some .nili
  | d + 1, .iface t v => match ofVal d v with | some a => some (.iface t a) | none => none
  | d + 1, .agg cs => match ofVals d cs.toList with | some l => some (.agg l) | none => none
  | d + 1, .tuple cs => match ofVals d cs.toList with | some l => some (.tup l) | none => none
  | _, _ => none
def ofVals : Nat → List Value → Option (List AV)
  | _, [] => some []
  | 0, _ => none
  | d + 1, v :: vs => match ofVal d v, ofVals d vs with | some a, some l => some (a :: l) | _, _ => none
end

def AV.cells : AV → List AV
  | .agg cs => cs
  | v => [v]
def AV.one : AV → Bool
  | .agg _ => false
  | .tup _ => false
  | _ => true

def opd (e : Env) : Operand → Option AV
  | .tmp t => some (e.at t)
  | .const v => ofVal 100 v
  | .func f => some (.func (.func f) [] [])
  | .global _ => none
def opds (e : Env) : List Operand → Option (List AV)
  | [] => some []
  | x :: xs => match opd e x with
    | none => none
    | some a => match opds e xs with
      | none => none
      | some l => some (a :: l)

/-! integers -/
def lim : IntKind → Nat
  | .i8 => 128 | .i16 => 32768 | .i32 => 2147483648 | .i64 => 9223372036854775808
  | .u8 => 256 | .u16 => 65536 | .u32 => 4294967296 | .u64 => 18446744073709551616
def wrp (k : IntKind) : Int → Int
  | .ofNat m => bif Nat.blt m (lim k) then .ofNat m else k.wrap (.ofNat m)
  | .negSucc m => bif k.signed && Nat.blt m (lim k) then .negSucc m else k.wrap (.negSucc m)
def ilt : Int → Int → Bool
  | .ofNat a, .ofNat b => Nat.blt a b
  | .negSucc _, .ofNat _ => true
  | .ofNat _, .negSucc _ => false
  | .negSucc a, .negSucc b => Nat.blt b a
def ieq : Int → Int → Bool
  | .ofNat a, .ofNat b => Nat.beq a b
  | .negSucc a, .negSucc b => Nat.beq a b
  | _, _ => false
def nat? : Int → Option Nat
  | .ofNat a => some a
  | _ => none
def ibits (k : IntKind) (f : Nat → Nat → Nat) (a b : Int) : Int :=
  k.wrap (f (BitVec.ofInt k.bits a).toNat (BitVec.ofInt k.bits b).toNat : Nat)
def ibin (op : BinOp) (k : IntKind) (a b : Int) : Option AV :=
  match op with
  | .add => some (.int k (wrp k (a + b)))
  | .sub => some (.int k (wrp k (a - b)))
  | .mul => some (.int k (wrp k (a * b)))
  | .quo => bif ieq b 0 then none else some (.int k (wrp k (a.tdiv b)))
  | .rem => bif ieq b 0 then none else some (.int k (a.tmod b))
  | .and => some (.int k (ibits k Nat.land a b))
  | .or => some (.int k (ibits k Nat.lor a b))
  | .xor => some (.int k (ibits k Nat.xor a b))
  | .eql => some (.bool (ieq a b))
  | .neq => some (.bool (!ieq a b))
  | .lss => some (.bool (ilt a b))
  | .leq => some (.bool (!ilt b a))
  | .gtr => some (.bool (ilt b a))
  | .geq => some (.bool (!ilt a b))
  | _ => none
def ishift (op : BinOp) (k : IntKind) (a b : Int) : Option AV :=
  match b with
  | .negSucc _ => none
  | .ofNat y =>
    let n := bif Nat.ble y k.bits then y else k.bits
    match op with
    | .shl => some (.int k (wrp k (a * .ofNat (2 ^ n))))
    | .shr => some (.int k (a.fdiv (.ofNat (2 ^ n))))
    | _ => none

/-! strings -/
def seq : List Nat → List Nat → Bool
  | [], [] => true
  | a :: x, b :: y => bif Nat.beq a b then seq x y else false
  | _, _ => false
def slt : List Nat → List Nat → Bool
  | _, [] => false
  | [], _ :: _ => true
  | a :: x, b :: y => bif Nat.blt a b then true else bif Nat.beq a b then slt x y else false
def sbin (op : BinOp) (a b : List Nat) : Option AV :=
  match op with
  | .add => bif Nat.blt (a.length + b.length) 9223372036854775808 then some (.str (a ++ b)) else none
  | .eql => some (.bool (seq a b))
  | .neq => some (.bool (!seq a b))
  | .lss => some (.bool (slt a b))
  | .leq => some (.bool (slt a b || seq a b))
  | .gtr => some (.bool (!(slt a b || seq a b)))
  | .geq => some (.bool (!slt a b))
  | _ => none

/-! equality of other values, by type; `none`: not covered -/
def isBlank (s : String) : Bool := s == "_"
def getPart (X : X) (t : Nat) (cs : List AV) (off : Nat) : Option AV :=
  match X.ti t with
  | none => none
  | some i =>
    match i.desc with
    | .struct _ => some (.agg ((cs.drop off).take i.size))
    | .array _ _ => some (.agg ((cs.drop off).take i.size))
    | _ => cs[off]?
mutual
def aeq (X : X) : Nat → Nat → AV → AV → Option Bool
  | 0, _, _, _ => none
  | d + 1, t, x, y =>
    match X.ti t with
    | none => none
    | some i =>
      match i.desc, x, y with
      | .bool, .bool a, .bool b => some (a == b)
      | .int _, .int k a, .int k' b => bif decide (k = k') then some (ieq a b) else none
      | .string, .str a, .str b => some (seq a b)
      | .pointer _, .nilp, .nilp => some true
      | .pointer _, .nilp, .ptr _ _ => some false
      | .pointer _, .ptr _ _, .nilp => some false
      | .slice _, .nils, .nils => some true
      | .slice _, .nils, .slice _ _ _ _ => some false
      | .slice _, .nils, .emp => some false
      | .slice _, .slice _ _ _ _, .nils => some false
      | .slice _, .emp, .nils => some false
      | .slice _, .nils, .rsl _ _ _ => some false
      | .slice _, .rsl _ _ _, .nils => some false
      | .pointer _, .nilp, .rptr _ _ => some false
      | .pointer _, .rptr _ _, .nilp => some false
      | .map _ _, .nilm, .nilm => some true
      | .map _ _, .nilm, .map _ => some false
      | .map _ _, .map _, .nilm => some false
      | .func _ _ _, .nilf, .nilf => some true
      | .func _ _ _, .nilf, .func _ _ _ => some false
      | .func _ _ _, .func _ _ _, .nilf => some false
      | .struct fs, .agg xs, .agg ys => bif X.eqs t then aeqs X d fs.toList xs ys else none
      | _, _, _ => none
def aeqs (X : X) : Nat → List Field → List AV → List AV → Option Bool
  | _, [], _, _ => some true
  | 0, _, _, _ => none
  | d + 1, f :: fs, xs, ys =>
    bif isBlank f.name then none else
    match getPart X f.type xs f.offset, getPart X f.type ys f.offset with
    | some a, some b =>
      match aeq X d f.type a b with
      | some true => aeqs X d fs xs ys
      | some false => some false
      | none => none
    | _, _ => none
end

def abin (X : X) (op : BinOp) (t : Nat) (x y : AV) : Option AV :=
  match x, y with
  | .int k a, .int k' b =>
    match op with
    | .shl => ishift .shl k a b
    | .shr => ishift .shr k a b
    | op => bif decide (k = k') then ibin op k a b else none
  | .str a, .str b => sbin op a b
  | x, y =>
    match op with
    | .eql => match aeq X 10 t x y with | some b => some (.bool b) | none => none
    | .neq => match aeq X 10 t x y with | some b => some (.bool (!b)) | none => none
    | _ => none

def aun (op : UnOp) (x : AV) : Option AV :=
  match op, x with
  | .neg, .int k n => some (.int k (wrp k (0 - n)))
  | .xor, .int k n => some (.int k (ibits k Nat.xor (if k.signed then -1 else k.max) n))
  | .not, .bool b => some (.bool !b)
  | _, _ => none

/-! the parts of composites -/
def lput {α : Type} : List α → Nat → List α → List α
  | [], _, _ => []
  | c :: cs, 0, [] => c :: cs
  | _ :: cs, 0, v :: vs => v :: lput cs 0 vs
  | c :: cs, o + 1, vs => c :: lput cs o vs
def afill (place : Nat → Option (Nat × Nat)) (cells : List AV) : List (Nat × AV) → Option (List AV)
  | [] => some cells
  | (i, v) :: rest =>
    match place i with
    | none => none
    | some (off, size) =>
      bif Nat.beq v.cells.length size && Nat.ble (off + size) cells.length then afill place (lput cells off v.cells) rest else none
def places (X : X) : List Field → Option (List (Nat × Nat))
  | [] => some []
  | f :: fs => match X.ti f.type with
    | none => none
    | some i => match places X fs with
      | none => none
      | some l => some ((f.offset, i.size) :: l)
def abuild (X : X) (t : Nat) (parts : List (Nat × AV)) : Option AV :=
  match X.ti t with
  | none => none
  | some i =>
    match i.desc with
    | .struct fs => match places X fs.toList with
      | none => none
      | some ps => match afill (fun j => ps[j]?) i.zero parts with
        | none => none
        | some cs => some (.agg cs)
    | _ => none
def rep (z : List AV) : Nat → List AV
  | 0 => []
  | n + 1 => z ++ rep z n
def opparts (e : Env) : List (Nat × Operand) → Option (List (Nat × AV))
  | [] => some []
  | (i, x) :: xs => match opd e x with
    | none => none
    | some a => match opparts e xs with
      | none => none
      | some l => some ((i, a) :: l)

def optOpd (e : Env) : Option Operand → Option (Option AV)
  | none => some none
  | some x => match opd e x with | none => none | some a => some (some a)

def bound (x : AV) (y : Nat) : Option Nat :=
  match x with
  | .int _ (.ofNat i) => bif Nat.ble i y then some i else none
  | _ => none
/-- the bounds of a slicing: `len` the length, `lim` up to where one may surely slice -/
def bounds (len lim : Nat) (lo hi : Option AV) : Option (Nat × Nat) :=
  match hi with
  | none => match lo with
    | none => some (0, len)
    | some l => match bound l len with | none => none | some l => some (l, len)
  | some h => match bound h lim with
    | none => none
    | some h => match lo with
      | none => some (0, h)
      | some l => match bound l h with | none => none | some l => some (l, h)
def aslice (X : X) (t : Nat) (x : AV) (lo hi mx : Option AV) : Option AV :=
  match x with
  | .str s => match mx with
    | some _ => none
    | none => match bounds s.length s.length lo hi with
      | none => none
      | some (l, h) => some (.str ((s.take h).drop l))
  | .nils => match mx with
    | some _ => none
    | none => match bounds 0 0 lo hi with
      | none => none
      | some _ => some .nils
  | .emp => match mx with
    | some _ => none
    | none => match bounds 0 0 lo hi with
      | none => none
      | some _ => some .emp
  | .rsl cs len sz => match mx with
    | some _ => none
    | none => match X.ti t with
      | none => none
      | some i => match i.desc with
        | .slice el => match X.ti el with
          | none => none
          | some ei => bif Nat.beq sz ei.size then (match bounds len len lo hi with
            | none => none
            | some (l, h) => some (.rsl ((cs.take (h * sz)).drop (l * sz)) (h - l) sz)) else none
        | _ => none
  | .slice b o len cap =>
    match X.ti t with
    | none => none
    | some i => match i.desc with
      | .slice el => match X.ti el with
        | none => none
        | some ei =>
          match cap with
          | .ex k => match mx with
            | none => match bounds len k lo hi with
              | none => none
              | some (l, h) => some (.slice b (bif Nat.beq k l then o else o + l * ei.size) (h - l) (.ex (k - l)))
            | some m => match bound m k with
              | none => none
              | some m => match hi with
                | none => none
                | some _ => match bounds len m lo hi with
                  | none => none
                  | some (l, h) => some (.slice b (bif Nat.beq m l then o else o + l * ei.size) (h - l) (.ex (m - l)))
          | .op z => match mx with
            | none => match bounds len len lo hi with
              | none => none
              | some (l, h) => bif Nat.blt l len && Nat.beq z ei.size then some (.slice b (o + l * ei.size) (h - l) (.op z)) else bif Nat.beq h l then some .emp else none
            | some m => match bound m len with
              | none => none
              | some m => match hi with
                | none => none
                | some _ => match bounds len m lo hi with
                  | none => none
                  | some (l, h) => some (.slice b (bif Nat.beq m l then o else o + l * ei.size) (h - l) (.ex (m - l)))
      | _ => none
  | _ => none

def encodeR (r : Int) : List Nat :=
  let c := if Utf8.valid r then r.toNat else Utf8.runeError
  bif Nat.blt c 0x80 then [c]
  else bif Nat.blt c 0x800 then [0xC0 + c / 64, 0x80 + c % 64]
  else bif Nat.blt c 0x10000 then [0xE0 + c / 4096, 0x80 + c / 64 % 64, 0x80 + c % 64]
  else [0xF0 + c / 262144, 0x80 + c / 4096 % 64, 0x80 + c / 64 % 64, 0x80 + c % 64]
/-- the rune with which a text begins that is not empty, and its bytes -/
def decodeR (l : List Nat) : Nat × Nat :=
  match l with
  | [] => (Utf8.runeError, 1)
  | b0 :: l1 =>
    let cont (k : Nat) : Bool := l1.getD k 0 / 64 == 2
    let at' (k : Nat) : Nat := l1.getD k 0
    if b0 < 0x80 then (b0, 1)
    else if b0 / 32 == 6 && cont 0 then
      let c := (b0 % 32) * 64 + at' 0 % 64
      if c ≥ 0x80 then (c, 2) else (Utf8.runeError, 1)
    else if b0 / 16 == 14 && cont 0 && cont 1 then
      let c := (b0 % 16) * 4096 + (at' 0 % 64) * 64 + at' 1 % 64
      if c ≥ 0x800 && Utf8.valid c then (c, 3) else (Utf8.runeError, 1)
    else if b0 / 8 == 30 && cont 0 && cont 1 && cont 2 then
      let c := (b0 % 8) * 262144 + (at' 0 % 64) * 4096 + (at' 1 % 64) * 64 + at' 2 % 64
      if c ≥ 0x10000 && Utf8.valid c then (c, 4) else (Utf8.runeError, 1)
    else (Utf8.runeError, 1)

/-! operations that neither read nor write memory -/
def pureOp (X : X) (e : Env) (op : Op) : Option AV :=
  match op with
  | .move x => opd e x
  | .assign x => opd e x
  | .pick c a b => match opd e c with
    | some (.bool true) => match opd e b with | some _ => opd e a | none => none
    | some (.bool false) => match opd e a with | some _ => opd e b | none => none
    | _ => none
  | .nilCheck x => match opd e x with
    | some (.ptr b o) => some (.ptr b o)
    | some (.rptr cs o) => some (.rptr cs o)
    | some (.func (.func f) a c) => some (.func (.func f) a c)
    | _ => none
  | .binOp op t x y _ => match opd e x with
    | none => none
    | some a => match opd e y with
      | none => none
      | some b => abin X op t a b
  | .unOp op _ x => match opd e x with
    | none => none
    | some a => aun op a
  | .convert s d x => match opd e x with
    | none => none
    | some a => match X.ti d with
      | none => none
      | some i => match X.ti s with
        | none => none
        | some _ => match i.desc, a with
          | .int k, .int _ n => some (.int k (wrp k n))
          | .string, .int _ n => some (.str (encodeR n))
          | .string, .str s => some (.str s)
          | _, _ => none
  | .makeFunc fn first captured => match opds e first.toList with
    | none => none
    | some a => match opds e captured.toList with
      | none => none
      | some b => some (.func fn a b)
  | .makeInterface t x => match opd e x with
    | none => none
    | some a => match X.ti t with
      | none => none
      | some i => match i.desc with
        | .interface _ => none
        | _ => some (.iface t a)
  | .build t parts => match opparts e parts.toList with
    | none => none
    | some ps => abuild X t ps
  | .slice t x lo hi mx => match opd e x with
    | none => none
    | some a => match optOpd e lo with
      | none => none
      | some lo => match optOpd e hi with
        | none => none
        | some hi => match optOpd e mx with
          | none => none
          | some mx => match X.ti t with
            | none => none
            | some i => match i.desc with
              | .string => match a with
                | .str _ => aslice X t a lo hi mx
                | _ => none
              | .slice el => match X.ti el with
                | none => none
                | some _ => match a with
                  | .str _ => none
                  | _ => aslice X t a lo hi mx
              | _ => none
  | .fieldAddr s x f => match opd e x with
    | some (.ptr b o) => match X.ti s with
      | none => none
      | some i => match i.desc with
        | .struct fs => match fs.toList[f]? with
          | none => none
          | some fd => match X.ti fd.type with
            | none => none
            | some fi => bif Nat.beq fi.size 0 then none else some (.ptr b (o + fd.offset))
        | _ => none
    | some (.rptr cs o) => match X.ti s with
      | none => none
      | some i => match i.desc with
        | .struct fs => match fs.toList[f]? with
          | none => none
          | some fd => match X.ti fd.type with
            | none => none
            | some fi => bif Nat.beq fi.size 0 then none else some (.rptr cs (o + fd.offset))
        | _ => none
    | _ => none
  | .field t x f => match opd e x with
    | some (.agg cs) => match X.ti t with
      | none => none
      | some i => match i.desc with
        | .struct fs => match fs.toList[f]? with
          | none => none
          | some fd => getPart X fd.type cs fd.offset
        | _ => none
    | _ => none
  | .indexAddr t x ix => match opd e ix with
    | some (.int _ (.ofNat i)) => match opd e x with
      | some (.slice b o len _) => match X.ti t with
        | none => none
        | some ti => match ti.desc with
          | .slice el => match X.ti el with
            | none => none
            | some ei => bif Nat.blt i len then some (.ptr b (o + i * ei.size)) else none
          | _ => none
      | some (.rsl cs len sz) => match X.ti t with
        | none => none
        | some ti => match ti.desc with
          | .slice el => match X.ti el with
            | none => none
            | some ei => bif Nat.blt i len && Nat.beq sz ei.size then some (.rptr cs (i * ei.size)) else none
          | _ => none
      | _ => none
    | _ => none
  | .index t x ix => match opd e ix with
    | some (.int _ (.ofNat i)) => match opd e x with
      | some (.str s) => match X.ti t with
        | none => none
        | some ti => match ti.desc with
          | .string => match s[i]? with | some c => some (.int .u8 (.ofNat c)) | none => none
          | _ => none
      | _ => none
    | _ => none
  | .extract x ix => match opd e x with
    | some (.tup vs) => vs[ix]?
    | _ => none
  | .call { callee := .builtin .len, args, argTypes } => match args.toList with
    | [x] => match argTypes.toList with
      | t :: _ => match X.ti t with
        | none => none
        | some i => match i.desc, opd e x with
          | .string, some (.str s) => some (.int .i64 (.ofNat s.length))
          | .slice _, some (.slice _ _ len _) => some (.int .i64 (.ofNat len))
          | .slice _, some (.rsl _ len _) => some (.int .i64 (.ofNat len))
          | .slice _, some .nils => some (.int .i64 0)
          | .slice _, some .emp => some (.int .i64 0)
          | .map _ _, some .nilm => some (.int .i64 0)
          | _, _ => none
      | _ => none
    | _ => none
  | .call { callee := .builtin .cap, args, argTypes } => match args.toList with
    | [x] => match argTypes.toList with
      | t :: _ => match X.ti t with
        | none => none
        | some i => match i.desc, opd e x with
          | .slice _, some (.slice _ _ _ (.ex k)) => some (.int .i64 (.ofNat k))
          | .slice _, some .nils => some (.int .i64 0)
          | _, _ => none
      | _ => none
    | _ => none
  | .call { callee := .builtin .min, args, .. } => match args.toList with
    | [x, y] => match opd e x, opd e y with
      | some (.int k a), some (.int _ b) => some (.int k (bif ilt b a then b else a))
      | _, _ => none
    | _ => none
  | .call { callee := .builtin .max, args, .. } => match args.toList with
    | [x, y] => match opd e x, opd e y with
      | some (.int k a), some (.int _ b) => some (.int k (bif ilt a b then b else a))
      | _, _ => none
    | _ => none
  | _ => none

def blk (H : Tr AB) (b : Nat) : Option (TypeId × List AV × Bool) :=
  match H.get b with
  | some (.cells t cs sp) => some (t, cs, sp)
  | _ => none
def row (H : Tr AB) (b o n : Nat) : Option (List AV) :=
  match H.get b with
  | some (.cells _ cs _) => bif Nat.ble (o + n) cs.length then some ((cs.drop o).take n) else none
  | _ => none
def bytesOf : List AV → Option (List Nat)
  | [] => some []
  | .int .u8 (.ofNat n) :: l => bif Nat.blt n 256 then match bytesOf l with | some r => some (n :: r) | none => none else none
  | _ => none
def runesOf : List AV → Option (List Nat)
  | [] => some []
  | .int .i32 n :: l => match runesOf l with | some r => some (encodeR n ++ r) | none => none
  | _ => none
def afind (X : X) (t : Nat) (k : AV) : List (AV × AV × Nat) → Nat → Option (Option (Nat × AV))
  | [], _ => some none
  | (k', v, _) :: es, i => match aeq X 10 t k k' with
    | some true => some (some (i, v))
    | some false => afind X t k es (i + 1)
    | none => none
/-- may this value be a key of this type? -/
def keyVal (X : X) : Nat → Nat → AV → Bool
  | 0, _, _ => false
  | d + 1, t, k => match X.ti t with
    | none => false
    | some i => match i.desc, k with
      | .bool, .bool _ => true
      | .int _, .int _ _ => true
      | .string, .str _ => true
      | .struct fs, .agg cs => fs.toList.all fun f => !isBlank f.name && (match getPart X f.type cs f.offset with | some a => keyVal X d f.type a | none => false)
      | _, _ => false
def loadAt (X : X) (H : Tr AB) (t b o : Nat) : Option AV :=
  match X.ti t with
  | none => none
  | some i => match i.desc with
    | .struct _ => match row H b o i.size with | some cs => some (.agg cs) | none => none
    | .array _ _ => match row H b o i.size with | some cs => some (.agg cs) | none => none
    | _ => match H.get b with
      | some (.cells _ cs _) => cs[o]?
      | _ => none

def loadR (X : X) (t : Nat) (cs : List AV) (o : Nat) : Option AV :=
  match X.ti t with
  | none => none
  | some i => match i.desc with
    | .struct _ => bif Nat.ble (o + i.size) cs.length then some (.agg ((cs.drop o).take i.size)) else none
    | .array _ _ => bif Nat.ble (o + i.size) cs.length then some (.agg ((cs.drop o).take i.size)) else none
    | _ => cs[o]?

/-! operations that only read memory -/
def readOp (X : X) (e : Env) (H : Tr AB) (op : Op) : Option AV :=
  match op with
  | .load t x => match opd e x with
    | some (.ptr b o) => loadAt X H t b o
    | some (.rptr cs o) => loadR X t cs o
    | _ => none
  | .binOp op t x y _ => match opd e x with
    | some (.ptr b o) => match opd e y with
      | some (.ptr b' o') => match X.ti t with
        | none => none
        | some i => match i.desc with
          | .pointer el => match X.ti el with
            | none => none
            | some ei => bif Nat.beq ei.size 0 then none else
              match blk H b, blk H b' with
              | some (_, _, false), some (_, _, false) => match op with
                | .eql => some (.bool (Nat.beq b b' && Nat.beq o o'))
                | .neq => some (.bool (!(Nat.beq b b' && Nat.beq o o')))
                | _ => none
              | _, _ => none
          | _ => none
      | _ => none
    | _ => none
  | .convert s d x => match opd e x with
    | none => none
    | some a => match X.ti d with
      | none => none
      | some i => match X.ti s with
        | none => none
        | some si => match i.desc with
          | .string => match si.desc with
            | .slice el => match X.ti el with
              | none => none
              | some ei => match ei.desc, a with
                | .int .u8, .nils => some (.str [])
                | .int .u8, .emp => some (.str [])
                | .int .u8, .slice b o len _ => match row H b o len with
                  | none => none
                  | some cs => match bytesOf cs with
                    | none => none
                    | some s => some (.str s)
                | .int .u8, .rsl cs _ sz => bif Nat.beq sz 1 then (match bytesOf cs with
                    | none => none
                    | some s => some (.str s)) else none
                | .int .i32, .rsl cs _ sz => bif Nat.beq sz 1 then (match runesOf cs with
                    | none => none
                    | some s => some (.str s)) else none
                | .int .i32, .nils => some (.str [])
                | .int .i32, .emp => some (.str [])
                | .int .i32, .slice b o len _ => match row H b o len with
                  | none => none
                  | some cs => match runesOf cs with
                    | none => none
                    | some s => some (.str s)
                | _, _ => none
            | _ => none
          | _ => none
  | .lookup t x ix ok => match X.ti t with
    | none => none
    | some i => match i.desc with
      | .map kt et => match opd e ix with
        | none => none
        | some k => bif keyVal X 4 kt k then
            match X.ti et with
            | none => none
            | some ei =>
              let zero : Option AV := match ei.desc with
                | .struct _ => some (.agg ei.zero)
                | .array _ _ => some (.agg ei.zero)
                | _ => match ei.zero with | [z] => some z | _ => none
              match zero with
              | none => none
              | some z =>
                let r : Option (Option (Nat × AV)) := match opd e x with
                  | some .nilm => some none
                  | some (.map r) => match H.get r with
                    | some (.map es _) => afind X kt k es 0
                    | _ => none
                  | _ => none
                match r with
                | none => none
                | some r =>
                  let v : AV := match r with | some (_, v) => v | none => z
                  let b : Bool := match r with | some _ => true | none => false
                  some (bif ok then .tup [v, .bool b] else v)
          else none
      | _ => none
  | .call { callee := .builtin .len, args, argTypes } => match args.toList with
    | [x] => match argTypes.toList with
      | t :: _ => match X.ti t with
        | none => none
        | some i => match i.desc, opd e x with
          | .map _ _, some (.map r) => match H.get r with
            | some (.map es _) => some (.int .i64 (.ofNat es.length))
            | _ => none
          | _, _ => none
      | _ => none
    | _ => none
  | _ => none

def sbytes (s : List Nat) : List AV := s.map fun c => .int .u8 (.ofNat c)
def runesFrom : Nat → List Nat → List AV
  | 0, _ => []
  | b + 1, l => match l with
    | [] => []
    | _ :: _ => let (c, n) := decodeR l; .int .i32 (.ofNat c) :: runesFrom b (l.drop n)

/-! operations that make one block -/
def allocOp (X : X) (e : Env) (id : Nat) (op : Op) : Option (AB × AV) :=
  match op with
  | .alloc t => match X.ti t with
    | none => none
    | some i => some (.cells t i.zero false, .ptr id 0)
  | .box t x => match opd e x with
    | none => none
    | some a => some (.cells t a.cells false, .ptr id 0)
  | .buildSlice t len parts => match X.ti t with
    | none => none
    | some i => match i.desc with
      | .slice el => match X.ti el with
        | none => none
        | some ei => bif Nat.beq ei.size 0 || Nat.blt 16777216 (len * ei.size) || !(Nat.beq ei.zero.length ei.size) then none else
          match opparts e parts.toList with
          | none => none
          | some ps => match afill (fun i => some (i * ei.size, ei.size)) (rep ei.zero len) ps with
            | none => none
            | some cs => some (.cells el cs false, .slice id 0 len (.ex len))
      | _ => none
  | .makeSlice t l c => match X.ti t with
    | none => none
    | some i => match i.desc with
      | .slice el => match X.ti el with
        | none => none
        | some ei => match opd e l with
          | some (.int .i64 (.ofNat l)) => match opd e c with
            | some (.int .i64 (.ofNat c)) =>
              bif Nat.ble l c && Nat.ble (ei.bytes * c) 1048576000000 && Nat.ble c 1048576000000 && !(Nat.beq ei.size 0) && Nat.beq ei.zero.length ei.size then some (.cells el (rep ei.zero c) false, .slice id 0 l (.ex c)) else none
            | _ => none
          | _ => none
      | _ => none
  | .makeMap _ r => match r with
    | none => some (.map [] 0, .map id)
    | some _ => none
  | .convert s d x => match opd e x with
    | some (.str a) => match X.ti d with
      | none => none
      | some i => match X.ti s with
        | none => none
        | some _ => match i.desc with
          | .slice el => match X.ti el with
            | none => none
            | some ei => bif !(Nat.beq ei.size 1) then none else match ei.desc with
              | .int .u8 => bif Nat.blt a.length 9223372036854775808 then some (.cells el (sbytes a) true, .slice id 0 a.length (.op 1)) else none
              | .int .i32 => bif Nat.blt a.length 9223372036854775808 then (let rs := runesFrom a.length a; some (.cells el rs true, .slice id 0 rs.length (.op 1))) else none
              | _ => none
          | _ => none
    | _ => none
  | .range t x => match X.ti t with
    | none => none
    | some i => match i.desc with
      | .string => match opd e x with
        | some (.str s) => some (.sit s 0, .ptr id 0)
        | _ => none
      | _ => none
  | _ => none

def St.new (S : St) (b : AB) : St := { h := Tr.set 40 S.h S.n b, n := S.n + 1 }
def St.put (S : St) (id : Nat) (b : AB) : St := { h := Tr.set 40 S.h id b, n := S.n }

def storeAt (S : St) (b o : Nat) (vs : List AV) : Option St :=
  match S.h.get b with
  | some (.cells t cs sp) => bif Nat.ble (o + vs.length) cs.length && vs.all AV.one then some (S.put b (.cells t (lput cs o vs) sp)) else none
  | _ => none
/-- the first n elements' cells of what is appended or copied -/
def srcCells (H : Tr AB) (size n : Nat) : AV → Option (List AV)
  | .slice b o _ _ => row H b o (n * size)
  | .nils => bif Nat.beq n 0 then some [] else none
  | .emp => bif Nat.beq n 0 then some [] else none
  | .str s => bif Nat.beq size 1 then some (sbytes (s.take n)) else none
  | .rsl cs _ sz => bif Nat.beq sz size && Nat.ble (n * size) cs.length then some (cs.take (n * size)) else none
  | _ => none
def srcLen : AV → Option Nat
  | .slice _ _ n _ => some n
  | .nils => some 0
  | .emp => some 0
  | .str s => some s.length
  | .rsl _ n _ => some n
  | _ => none
def grow (S : St) (el : Nat) (size bytes : Nat) (cs : List AV) (need : Nat) : Option (AV × St) :=
  bif Nat.blt S.n 1000000000 && Nat.ble ((2 * need + 1000) * bytes) 140737488355328 && Nat.ble need 140737488355328 then some (.slice S.n 0 need (.op size), S.new (.cells el cs true)) else none
def aappend (X : X) (S : St) (t : Nat) (s x : AV) : Option (AV × St) :=
  match X.ti t with
  | none => none
  | some i => match i.desc with
    | .slice el => match X.ti el with
      | none => none
      | some ei => bif Nat.beq ei.size 0 || !(Nat.beq ei.zero.length ei.size) then none else
        match srcLen x with
        | none => none
        | some n => match srcCells S.h ei.size n x with
          | none => none
          | some new =>
            match s with
            | .nils => bif Nat.beq n 0 then some (.nils, S) else grow S el ei.size ei.bytes new n
            | .emp => bif Nat.beq n 0 then some (.emp, S) else none
            | .slice b o len (.ex k) =>
              bif Nat.ble (len + n) k then
                match storeAt S b (o + len * ei.size) new with
                | none => none
                | some S => some (.slice b o (len + n) (.ex k), S)
              else match row S.h b o (len * ei.size) with
                | none => none
                | some old => grow S el ei.size ei.bytes (old ++ new) (len + n)
            | .slice b o len (.op z) =>
              bif Nat.beq n 0 then some (.slice b o len (.op z), S) else bif !(Nat.beq z ei.size) then none else
              match S.h.get b with
              | some (.cells t' cs sp) =>
                bif Nat.ble (o + (len + n) * ei.size) cs.length then
                  match storeAt S b (o + len * ei.size) new with
                  | none => none
                  | some S => some (.slice b o (len + n) (.op z), S)
                else bif Nat.blt S.n 1000000000 && sp && Nat.beq t' el && Nat.beq (o + len * ei.size) cs.length && Nat.ble ((2 * (len + n) + 1000) * ei.bytes) 140737488355328 && Nat.ble (len + n) 140737488355328 && new.all AV.one then
                  some (.slice S.n 0 (len + n) (.op z), { h := Tr.set 40 (S.h.del b) S.n (.cells el (cs.drop o ++ new) true), n := S.n + 1 })
                else none
              | _ => none
            | _ => none
    | _ => none
def acopy (X : X) (S : St) (t : Nat) (d x : AV) : Option (AV × St) :=
  match X.ti t with
  | none => none
  | some i => match i.desc with
    | .slice el => match X.ti el with
      | none => none
      | some ei => match srcLen x with
        | none => none
        | some m => match d with
          | .nils => some (.int .i64 0, S)
          | .emp => some (.int .i64 0, S)
          | .slice b o dl _ =>
            let n := bif Nat.ble m dl then m else dl
            match srcCells S.h ei.size n x with
            | none => none
            | some cs => match storeAt S b o cs with
              | none => none
              | some S => some (.int .i64 (.ofNat n), S)
          | _ => none
    | _ => none
def mput (es : List (AV × AV × Nat)) (i : Nat) (k v : AV) : List (AV × AV × Nat) :=
  match es, i with
  | [], _ => []
  | (_, _, b) :: es, 0 => (k, v, b) :: es
  | e :: es, i + 1 => e :: mput es i k v
def ksame1 : AV → AV → Bool
  | .int k a, .int k' b => decide (k = k') && ieq a b
  | .str a, .str b => seq a b
  | .bool a, .bool b => a == b
  | _, _ => false
def ksames : List AV → List AV → Bool
  | [], [] => true
  | a :: asx, b :: bs => bif ksame1 a b then ksames asx bs else false
  | _, _ => false
def ksame : AV → AV → Bool
  | .agg asx, .agg bs => ksames asx bs
  | a, b => ksame1 a b
def keyAt (es : List (AV × AV × Nat)) (i : Nat) (k : AV) : Bool := match es[i]? with | some (k', _, _) => ksame k' k | none => false
def aupdate (X : X) (S : St) (t : Nat) (m k v : AV) : Option St :=
  match X.ti t with
  | none => none
  | some i => match i.desc with
    | .map kt _ => match m with
      | .map r => bif keyVal X 4 kt k then match S.h.get r with
        | some (.map es clock) => match afind X kt k es 0 with
          | none => none
          | some (some (i, _)) => bif keyAt es i k then some (S.put r (.map (mput es i k v) clock)) else none
          | some none => some (S.put r (.map (es ++ [(k, v, clock)]) (clock + 1)))
        | _ => none
        else none
      | _ => none
    | _ => none
def stampAt (es : List (AV × AV × Nat)) (i : Nat) : Nat := match es[i]? with | some (_, _, b) => b | none => 0
def aentry (X : X) (S : St) (t : Nat) (m k : AV) : Option (AV × St) :=
  match X.ti t with
  | none => none
  | some i => match i.desc with
    | .map kt et => match m with
      | .map r => bif keyVal X 4 kt k then match S.h.get r with
        | some (.map es clock) => match afind X kt k es 0 with
          | none => none
          | some (some (i, v)) => bif keyAt es i k then some (.tup [v, .int .i64 (.ofNat (stampAt es i))], S.put r (.map (mput es i k v) clock)) else none
          | some none => match X.ti et with
            | none => none
            | some ei => match ei.desc, ei.zero with
              | .struct _, _ => none
              | .array _ _, _ => none
              | _, [z] => some (.tup [z, .int .i64 (.ofNat clock)], S.put r (.map (es ++ [(k, z, clock)]) (clock + 1)))
              | _, _ => none
        | _ => none
        else none
      | _ => none
    | _ => none
def stamped (es : List (AV × AV × Nat)) (born : Nat) (v : AV) : Option (List (AV × AV × Nat)) :=
  match es with
  | [] => none
  | (k, x, b) :: es => bif Nat.beq b born then some ((k, v, b) :: es) else match stamped es born v with | some l => some ((k, x, b) :: l) | none => none
def aentryStore (S : St) (m stamp v : AV) : Option St :=
  match m, stamp with
  | .map r, .int _ (.ofNat born) => match S.h.get r with
    | some (.map es clock) => match stamped es born v with
      | some es => some (S.put r (.map es clock))
      | none => none
    | _ => none
  | _, _ => none
def merase (es : List (AV × AV × Nat)) (i : Nat) : List (AV × AV × Nat) := es.eraseIdx i
def adelete (X : X) (S : St) (t : Nat) (m k : AV) : Option St :=
  match X.ti t with
  | none => none
  | some i => match i.desc with
    | .map kt _ => match m with
      | .map r => bif keyVal X 4 kt k then match S.h.get r with
        | some (.map es clock) => match afind X kt k es 0 with
          | none => none
          | some (some (i, _)) => some (S.put r (.map (merase es i) clock))
          | some none => some S
        | _ => none
        else none
      | _ => none
    | _ => none
def anext (S : St) (it : AV) : Option (AV × St) :=
  match it with
  | .ptr r 0 => match S.h.get r with
    | some (.sit s pos) => match s.drop pos with
      | [] => some (.tup [.bool false], S)
      | b :: l => match decodeR (b :: l) with
        | (c, w) => some (.tup [.bool true, .int .i64 (.ofNat pos), .int .i32 (.ofNat c)], S.put r (.sit s (pos + w)))
    | _ => none
  | _ => none

/-! operations that write memory -/
/-- a slice of bytes -/
def isBytes (X : X) (s : Nat) : Bool :=
  match X.ti s with
  | none => false
  | some i => match i.desc with
    | .slice el => match X.ti el with
      | none => false
      | some ei => match ei.desc with
        | .int k => decide (k = .u8)
        | _ => false
    | _ => false
def loudOp (X : X) (e : Env) (S : St) (op : Op) : Option (AV × St) :=
  match op with
  | .store t a v => match opd e a with
    | some (.ptr b o) => match opd e v with
      | none => none
      | some v => match X.ti t with
        | none => none
        | some i => bif Nat.beq v.cells.length i.size then match storeAt S b o v.cells with
          | none => none
          | some S => some (.tup [], S)
          else none
    | _ => none
  | .convert s d x => match opd e x with
    | some (.slice b o n c) => bif Nat.beq s d && isBytes X s then match S.h.get b with
        | some (.cells t cs _) => some (.slice b o n c, S.put b (.cells t cs true))
        | _ => none
      else none
    | _ => none
  | .mapUpdate t m k v => match opd e m, opd e k, opd e v with
    | some m, some k, some v => match aupdate X S t m k v with
      | none => none
      | some S => some (.tup [], S)
    | _, _, _ => none
  | .insert t m k v => match opd e m, opd e k, opd e v with
    | some m, some k, some v => match aupdate X S t m k v with
      | none => none
      | some S => some (.tup [], S)
    | _, _, _ => none
  | .mapEntry t m k => match opd e m, opd e k with
    | some m, some k => aentry X S t m k
    | _, _ => none
  | .entryStore _ m s v => match opd e m, opd e s, opd e v with
    | some m, some s, some v => match aentryStore S m s v with
      | none => none
      | some S => some (.tup [], S)
    | _, _, _ => none
  | .next it str => bif str then match opd e it with
    | none => none
    | some it => anext S it
    else none
  | .call { callee := .builtin .append, args, argTypes } => match args.toList, argTypes.toList with
    | [s, x], t :: t' :: _ => match X.ti t' with
      | none => none
      | some i' => match i'.desc with
        | .int _ => none
        | _ => match opd e s, opd e x with
          | some s, some x => aappend X S t s x
          | _, _ => none
    | _, _ => none
  | .call { callee := .builtin .copy, args, argTypes } => match args.toList, argTypes.toList with
    | [s, x], t :: _ => match opd e s, opd e x with
      | some s, some x => acopy X S t s x
      | _, _ => none
    | _, _ => none
  | .call { callee := .builtin .delete, args, argTypes } => match args.toList, argTypes.toList with
    | [m, k], t :: _ => match opd e m, opd e k with
      | some m, some k => match adelete X S t m k with
        | none => none
        | some S => some (.tup [], S)
      | _, _ => none
    | _, _ => none
  | _ => none

inductive Cls where | pure | read | alloc | loud | call
  deriving DecidableEq, Inhabited

def isPtr : AV → Bool
  | .ptr _ _ => true
  | _ => false
def cls (X : X) (e : Env) (op : Op) : Cls :=
  match op with
  | .load .. => .read
  | .lookup .. => .read
  | .binOp _ _ x y _ => match opd e x with
    | some (.ptr _ _) => match opd e y with
      | some (.ptr _ _) => .read
      | _ => .pure
    | _ => .pure
  | .convert s d _ => match X.ti s with
    | none => .pure
    | some i => match i.desc with
      | .slice _ => match X.ti d with
        | none => .read
        | some j => match j.desc with
          | .slice _ => .loud
          | _ => .read
      | .string => match X.ti d with
        | none => .pure
        | some j => match j.desc with
          | .slice _ => .alloc
          | _ => .pure
      | _ => .pure
  | .alloc _ => .alloc
  | .box .. => .alloc
  | .buildSlice .. => .alloc
  | .makeSlice .. => .alloc
  | .makeMap .. => .alloc
  | .range .. => .alloc
  | .store .. => .loud
  | .mapUpdate .. => .loud
  | .insert .. => .loud
  | .mapEntry .. => .loud
  | .entryStore .. => .loud
  | .next .. => .loud
  | .call c => match c.callee with
    | .value _ => .call
    | .invoke .. => .call
    | .builtin b => match b with
      | .append => .loud
      | .copy => .loud
      | .delete => .loud
      | .len => match c.args.toList with
        | [x] => match opd e x with
          | some (.map _) => .read
          | _ => .pure
        | _ => .pure
      | _ => .pure
  | _ => .pure

def callee (e : Env) (op : Op) : Option (Nat × List AV) :=
  match op with
  | .call { callee := .value f, args, .. } => match opd e f with
    | some (.func (.func g) first captured) => match opds e args.toList with
      | none => none
      | some asx => some (g, first ++ asx ++ captured)
    | _ => none
  | _ => none

inductive Ex where | nor | exit (id : Nat) | ret
  deriving Inhabited
inductive Res where
  | fail
  | ok (x : Ex) (e : Env) (s : St)
  deriving Inhabited

abbrev Rec := Nat → Code → Env → St → Res      -- the first: how many temporaries

def argEnv : List AV → Nat → Env → Env
  | [], _, e => e
  | a :: asx, i, e => argEnv asx (i + 1) (e.put i a)
def rets (X : X) (e : Env) (H : Tr AB) : List ResultVar → Option (List AV)
  | [] => some []
  | .tmp t :: rs => match rets X e H rs with
    | none => none
    | some l => some (e.at t :: l)
  | .cell a t :: rs => match e.at a with
    | .ptr b o => match loadAt X H t b o with
      | none => none
      | some v => match rets X e H rs with
        | none => none
        | some l => some (v :: l)
    | _ => none
def tupled : List AV → AV
  | [v] => v
  | vs => .tup vs
def enter (X : X) (rec : Rec) (f : Nat) (args : List AV) (S : St) : Option (AV × St) :=
  match X.ext f with
  | some g => g args S
  | none =>
    match X.fn f with
    | none => none
    | some F => match F.body with
      | none => none
      | some c =>
        let n := args.length + (F.ntmps - args.length)
        bif Nat.blt n 1000000 then
        match rec n c (argEnv args 0 .leaf) S with
        | .fail => none
        | .ok x e S => match x with
          | .exit _ => none
          | _ => match rets X e S.h F.results.toList with
            | none => none
            | some l => some (tupled l, S)
        else none

def wanted (ops : List Oper) (e : Env) (o : Oper) : Bool :=
  match o.guard with
  | none => true
  | some (j, want) => match ops[j]? with
    | none => false
    | some p => match p.dst with
      | none => false
      | some d => match e.at d with
        | .bool b => b == want
        | _ => false

def setDst (n : Nat) (e : Env) (dst : Option Nat) (v : AV) : Option Env :=
  match dst with
  | none => some e
  | some d => bif Nat.blt d n then some (e.put d v) else none

def oper (X : X) (rec : Rec) (e : Env) (S : St) (op : Op) : Option (AV × St) :=
  match cls X e op with
  | .pure => match pureOp X e op with
    | none => none
    | some v => some (v, S)
  | .read => match readOp X e S.h op with
    | none => none
    | some v => some (v, S)
  | .alloc => bif Nat.blt S.n 1000000000 then match allocOp X e S.n op with
      | none => none
      | some (b, v) => some (v, S.new b)
    else none
  | .loud => match loudOp X e S op with
    | none => none
    | some (v, S') => bif Nat.ble S.n S'.n then some (v, S') else none
  | .call => match callee e op with
    | none => none
    | some (f, asx) => match enter X rec f asx S with
      | none => none
      | some (v, S') => bif Nat.ble S.n S'.n then some (v, S') else none

def opers (X : X) (rec : Rec) (n : Nat) (all : List Oper) : List Oper → Env → St → Res
  | [], e, S => .ok .nor e S
  | o :: os, e, S =>
    bif wanted all e o then
      match oper X rec e S o.op with
      | none => .fail
      | some (v, S) => match setDst n e o.dst v with
        | none => .fail
        | some e => opers X rec n all os e S
    else match setDst n e o.dst (.tup []) with
      | none => .fail
      | some e => opers X rec n all os e S

/-! a region that draws its order -/
inductive RK where
  | val
  | rd
  | mk (b : AB)
  | ld (h : Tr AB) (n : Nat)
  deriving Inhabited
/-- what came of one operation -/
structure R where
  v : AV
  n0 : Nat
  k : RK
  deriving Inhabited
def maskOf (acc : List Nat) (o : Oper) : Nat :=
  o.after.toList.foldl (fun m e => bif Region.binds .any e then Nat.lor (Nat.lor m (2 ^ e.on)) (acc.getD e.on 0) else m) 0
def masks : List Oper → List Nat → List Nat
  | [], acc => acc
  | o :: os, acc => masks os (acc ++ [maskOf acc o])
def inM (ms : List Nat) (i j : Nat) : Bool := Nat.testBit (ms.getD i 0) j
def edgesOk : List Oper → Nat → Bool
  | [], _ => true
  | o :: os, i => o.after.toList.all (fun e => !Region.binds .any e || Nat.blt e.on i) && edgesOk os (i + 1)
def dstIn (d : Nat) : List Oper → Bool
  | [] => false
  | o :: os => (match o.dst with | some d' => Nat.beq d d' | none => false) || dstIn d os
def dstsOk (n : Nat) : List Oper → Bool
  | [] => true
  | o :: os => (match o.dst with | some d => Nat.blt d n && !dstIn d os | none => true) && dstsOk n os
def noSelect : List Oper → Bool
  | [] => true
  | o :: os => (match o.op with | .select .. => false | _ => true) && noSelect os
def writer (t : Nat) : List Oper → Nat → Option Nat
  | [], _ => none
  | o :: os, i => match o.dst with
    | some d => bif Nat.beq d t then some i else writer t os (i + 1)
    | none => writer t os (i + 1)
def looks (ops : List Oper) (o : Oper) : List Nat :=
  (o.op.operands.toList.filterMap fun | .tmp t => some t | _ => none) ++
  (match o.guard with
   | some (g, _) => match ops[g]? with | some p => (match p.dst with | some d => [d] | none => []) | none => []
   | none => [])
def lookT (ms : List Nat) (ops : List Oper) (recs : List R) (e : Env) (i t : Nat) : Option AV :=
  match writer t ops 0 with
  | none => some (e.at t)
  | some j => bif inM ms i j then (match recs[j]? with | some r => some r.v | none => none) else bif Nat.beq i j || inM ms j i then some (e.at t) else none
def renv (ms : List Nat) (ops : List Oper) (recs : List R) (e : Env) (n i : Nat) : List Nat → Option Env
  | [] => some .leaf
  | t :: ts => bif Nat.blt t n then match lookT ms ops recs e i t with
      | none => none
      | some v => match renv ms ops recs e n i ts with
        | none => none
        | some e' => some (e'.put t v)
    else none
/-- a heap with the blocks made by some operations, unless a loud one behind them has had them -/
def ghStep (ms : List Nat) (lds : List Nat) (p : Nat → Bool) (r : R) (k : Nat) (h : Tr AB) : Tr AB :=
  match r.k with
  | .mk b => bif p k && lds.all (fun j => !inM ms j k) then Tr.set 40 h r.n0 b else h
  | _ => h
def gh (ms : List Nat) (lds : List Nat) (p : Nat → Bool) : List R → Nat → Tr AB → Tr AB
  | [], _, h => h
  | r :: rs, k, h => gh ms lds p rs (k + 1) (ghStep ms lds p r k h)
def plan (X : X) (rec : Rec) (n : Nat) (ops : List Oper) (ms : List Nat) (e : Env) : List Oper → Nat → List R → List Nat → Tr AB → Nat → Option (List R × List Nat × Nat)
  | [], _, acc, lds, _, N => some (acc, lds, N)
  | o :: os, i, acc, lds, h, N =>
    match renv ms ops acc e n i (looks ops o) with
    | none => none
    | some re =>
      bif wanted ops re o then
        match cls X re o.op with
        | .pure => match pureOp X re o.op with
          | none => none
          | some v => plan X rec n ops ms e os (i + 1) (acc ++ [⟨v, N, .val⟩]) lds h N
        | .read => match readOp X re (gh ms lds (inM ms i) acc 0 h) o.op with
          | none => none
          | some v => plan X rec n ops ms e os (i + 1) (acc ++ [⟨v, N, .rd⟩]) lds h N
        | .alloc => bif Nat.blt N 1000000000 then match allocOp X re N o.op with
            | none => none
            | some (b, v) => plan X rec n ops ms e os (i + 1) (acc ++ [⟨v, N, .mk b⟩]) lds h (N + 1)
          else none
        | _ => bif lds.all (fun j => inM ms i j) then match oper X rec re { h := gh ms lds (inM ms i) acc 0 h, n := N } o.op with
            | none => none
            | some (v, S) => plan X rec n ops ms e os (i + 1) (acc ++ [⟨v, N, .ld S.h S.n⟩]) (lds ++ [i]) S.h S.n
          else none
      else plan X rec n ops ms e os (i + 1) (acc ++ [⟨.tup [], N, .val⟩]) lds h N
mutual
def veq : AV → AV → Bool
  | .bool a, .bool b => a == b
  | .int k a, .int k' b => decide (k = k') && ieq a b
  | .str a, .str b => seq a b
  | .ptr a b, .ptr c d => Nat.beq a c && Nat.beq b d
  | .nilp, .nilp => true
  | .slice a b c (.ex k), .slice a' b' c' (.ex k') => Nat.beq a a' && Nat.beq b b' && Nat.beq c c' && Nat.beq k k'
  | .slice a b c (.op k), .slice a' b' c' (.op k') => Nat.beq a a' && Nat.beq b b' && Nat.beq c c' && Nat.beq k k'
  | .emp, .emp => true
  | .nils, .nils => true
  | .map a, .map b => Nat.beq a b
  | .nilm, .nilm => true
  | .nilf, .nilf => true
  | .nili, .nili => true
  | .func (.func f) a b, .func (.func f') a' b' => Nat.beq f f' && veqs a a' && veqs b b'
  | .iface t a, .iface t' b => Nat.beq t t' && veq a b
  | .agg a, .agg b => veqs a b
  | .sym k i, .sym k' j => decide (k = k') && Nat.beq i j
  | .rsl a n s, .rsl b n' s' => veqs a b && Nat.beq n n' && Nat.beq s s'
  | .rptr a o, .rptr b o' => veqs a b && Nat.beq o o'
  | .tup a, .tup b => veqs a b
  | _, _ => false
def veqs : List AV → List AV → Bool
  | [], [] => true
  | a :: asx, b :: bs => veq a b && veqs asx bs
  | _, _ => false
end
/-- the heap behind some loud operations -/
def hOf (recs : List R) (h : Tr AB) : List Nat → Tr AB
  | [] => h
  | j :: js => hOf recs (match recs[j]? with | some r => (match r.k with | .ld h' _ => h' | _ => h) | none => h) js
/-- a read is the same wherever it may come -/
def rdOk (X : X) (ops : List Oper) (ms : List Nat) (recs : List R) (h0 : Tr AB) (re : Env) (i : Nat) (op : Op) (v : AV) (lds : List Nat) : List Nat → List Nat → Bool
  | pf, [] => rd1 pf
  | pf, j :: js => rd1 pf && rdOk X ops ms recs h0 re i op v lds (pf ++ [j]) js
  where
  rd1 (pf : List Nat) : Bool :=
    bif pf.all (fun j => !inM ms j i) && lds.all (fun j => !inM ms i j || pf.contains j) then
      match readOp X re (gh ms pf (inM ms i) recs 0 (hOf recs h0 pf)) op with
      | none => false
      | some v' => veq v' v
    else true
def rdsOk (X : X) (n : Nat) (ops : List Oper) (ms : List Nat) (recs : List R) (e : Env) (h0 : Tr AB) (lds : List Nat) : List Oper → Nat → Bool
  | [], _ => true
  | o :: os, i => (match recs[i]? with
      | some r => (match r.k with
        | .rd => (match renv ms ops recs e n i (looks ops o) with
          | some re => rdOk X ops ms recs h0 re i o.op r.v lds [] lds
          | none => false)
        | _ => true)
      | none => false) && rdsOk X n ops ms recs e h0 lds os (i + 1)
def putAll (n : Nat) : List Oper → List R → Env → Option Env
  | [], [], e => some e
  | o :: os, r :: rs, e => match setDst n e o.dst r.v with
    | none => none
    | some e => putAll n os rs e
  | _, _, _ => none
def drawn (X : X) (rec : Rec) (n : Nat) (ops : List Oper) (e : Env) (S : St) : Res :=
  let ms := masks ops []
  bif edgesOk ops 0 && dstsOk n ops && noSelect ops then
    match plan X rec n ops ms e ops 0 [] [] S.h S.n with
    | none => .fail
    | some (recs, lds, N) =>
      bif rdsOk X n ops ms recs e S.h lds ops 0 then
        match putAll n ops recs e with
        | none => .fail
        | some e' => bif Nat.ble S.n N then .ok .nor e' { h := gh ms lds (fun _ => true) recs 0 (hOf recs S.h lds), n := N } else .fail
      else .fail
  else .fail

def step (X : X) (rec : Rec) (n : Nat) (c : Code) (e : Env) (S : St) : Res :=
  match c with
  | .skip => .ok .nor e S
  | .label _ => .ok .nor e S
  | .ret => .ok .ret e S
  | .exit id => .ok (.exit id) e S
  | .seq a b => match rec n a e S with
    | .fail => .fail
    | .ok x e S => match x with
      | .nor => rec n b e S
      | x => .ok x e S
  | .cond c a b => match opd e c with
    | some (.bool t) => match t with
      | true => rec n a e S
      | false => rec n b e S
    | _ => .fail
  | .block id b => match rec n b e S with
    | .fail => .fail
    | .ok x e S => match x with
      | .exit i => bif Nat.beq i id then .ok .nor e S else .ok (.exit i) e S
      | x => .ok x e S
  | .loop b => match rec n b e S with
    | .fail => .fail
    | .ok x e S => match x with
      | .nor => rec n (.loop b) e S
      | x => .ok x e S
  | .scope b => rec n b e S
  | .region _ ops d => bif d then drawn X rec n ops.toList e S else opers X rec n ops.toList ops.toList e S
  | _ => .fail
def exec (X : X) : Nat → Rec
  | 0 => fun _ _ _ _ => .fail
  | f + 1 => step X (exec X f)
def call (X : X) (fuel f : Nat) (args : List AV) (S : St) : Option (AV × St) := enter X (exec X fuel) f args S

/-! the tables of a program -/
def aggD : TypeDesc → Bool
  | .struct _ => true
  | .array _ _ => true
  | _ => false
def aggV : Value → Bool
  | .agg _ => true
  | _ => false
def mkTI (P : Program) (t : Nat) : Option TI :=
  match P.info? t with
  | none => none
  | some i => match P.underlying t, i.zero with
    | some d, some z => match ofVals 200 z.cells.toList with
      | some l => bif aggD d == aggV z then some { size := i.size, bytes := i.bytes, desc := d, zero := l } else none
      | none => none
    | _, _ => none
def mkX (P : Program) (eqs : Nat → Bool) (ext : Nat → Option (List AV → St → Option (AV × St))) : X :=
  { ti := mkTI P, fn := fun f => P.funcs[f]?, eqs, ext }
end
end GX
