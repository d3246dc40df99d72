/- Plain Lean, no program in sight: what the assembler computes of texts: lines, parsed, their code and labels. -/
import Derived.Test.YtnlpekhohakkbaaGreatDoorPlainMachine
namespace Thole

abbrev Bytes := List UInt8

def splitOn' (sep : UInt8) : Bytes → List Bytes
  | [] => [[]]
  | c :: r => if c = sep then [] :: splitOn' sep r else match splitOn' sep r with | x :: xs => (c :: x) :: xs | [] => [[c]]

def isWs (c : UInt8) : Bool := decide (c = 32) || decide (c = 9)
def trimWs (s : Bytes) : Bytes := (((s.reverse.dropWhile isWs).reverse).dropWhile isWs)

def isLetter (x : UInt8) : Bool := decide (97 ≤ x) && decide (x ≤ 122)
def isDigit (x : UInt8) : Bool := decide (48 ≤ x) && decide (x ≤ 57)
def nameChar (x : UInt8) : Bool := isLetter x || isDigit x || decide (x = 95) || decide (x = 46)
def nameB (s : Bytes) : Bool := decide (1 ≤ s.length) && decide (s.length ≤ 24) && isLetter (s.headD 0) && s.all nameChar

def valOf (acc : Nat) (s : Bytes) : Nat := s.foldl (fun a c => a * 10 + (c.toNat - 48)) acc
def unsigned (s : Bytes) : Option Nat := if 1 ≤ s.length ∧ s.length ≤ 18 ∧ s.all isDigit = true then some (valOf 0 s) else none
def numberP (s : Bytes) : Option Int :=
  match s with
  | [] => none
  | c :: r => if c = 45 then (unsigned r).map (fun (v : Nat) => -(v : Int)) else (unsigned (c :: r)).map (fun (v : Nat) => (v : Int))

def regNames : List Bytes :=
  [[114, 48], [114, 49], [114, 50], [114, 51], [114, 52], [114, 53], [114, 54], [114, 55], [114, 56], [114, 57],
   [114, 49, 48], [114, 49, 49], [114, 49, 50], [114, 49, 51], [114, 49, 52], [114, 49, 53]]
def registerP (s : Bytes) : Option Int := (regNames.findIdx? (· == s)).map fun (n : Nat) => (n : Int)

structure LineP where
  label : Bytes
  ins : Ins
  target : Bytes
  deriving DecidableEq, Repr, Inhabited

def LineP.none : LineP := { label := [], ins := { op := 0, a := 0, b := 0, c := 0, n := 0 }, target := [] }

/-- the instructions' words, by their numbers from 1 on, and what they have (65, 66, 67: a register; 78: a number; 84: a name) -/
def words : List (Bytes × Bytes) :=
  [([115, 101, 116], [65, 78]), ([109, 111, 118], [65, 66]), ([97, 100, 100], [65, 66, 67]), ([97, 100, 100, 105], [65, 66, 78]), ([108, 100], [65, 66, 78]),
   ([115, 116], [65, 66, 78]), ([99, 97, 115], [65, 66, 78]), ([106, 109, 112], [84]), ([106, 101, 113], [65, 66, 84]), ([106, 110, 101], [65, 66, 84]),
   ([106, 108, 116], [65, 66, 84]), ([99, 97, 108, 108], [84]), ([114, 101, 116], []), ([112, 97, 114, 107], [65]), ([117, 110, 112, 97, 114, 107], [65]),
   ([97, 108, 108, 111, 99], [65, 78]), ([115, 101, 108, 102], [65]), ([110, 111, 119], [65]), ([105, 110, 116, 114], [65]), ([115, 101, 116, 105, 110, 116], []),
   ([109, 97, 114, 107], [78, 65]), ([100, 111, 110, 101], [65])]

def fieldP (l : LineP) (what : UInt8) (s : Bytes) : Option LineP :=
  if what = 65 then (registerP s).map fun v => { l with ins := { l.ins with a := v } }
  else if what = 66 then (registerP s).map fun v => { l with ins := { l.ins with b := v } }
  else if what = 67 then (registerP s).map fun v => { l with ins := { l.ins with c := v } }
  else if what = 78 then (numberP s).map fun v => { l with ins := { l.ins with n := v } }
  else if nameB s then some { l with target := s } else none

def fieldsP : LineP → Bytes → List Bytes → Option LineP
  | l, w :: ws, s :: ss => (fieldP l w s).bind fun l => fieldsP l ws ss
  | l, _, _ => some l

/-- the first shape of that word, and of so many fields, behind number k -/
def shapeOf (word : Bytes) (n : Nat) : Nat → List (Bytes × Bytes) → Option (Nat × Bytes)
  | _, [] => none
  | k, (w, has) :: l => if w = word ∧ has.length = n then some (k, has) else shapeOf word n (k + 1) l

def parseWords (ws : List Bytes) : Option LineP :=
  match shapeOf (ws.headD []) (ws.length - 1) 1 words with
  | none => none
  | some (op, has) =>
    match fieldsP { LineP.none with ins := { LineP.none.ins with op := op } } has ws.tail with
    | none => none
    | some l => if l.ins.op = 7 ∧ 13 < l.ins.a then none else some l

def parseP (line : Bytes) : Option LineP :=
  let s := trimWs line
  if s = [] ∨ s.headD 0 = 59 then some LineP.none
  else if s.getLastD 0 = 58 then (if nameB s.dropLast then some { LineP.none with label := s.dropLast } else none)
  else parseWords (splitOn' 32 s)

/- ## the assembler -/
structure Asm where
  code : List Ins
  labels : List (Bytes × Int)
  gone : List (Int × Int × Bytes)
  deriving Repr, Inhabited

def place (l : List (Bytes × Int)) (name : Bytes) : Option Int := (l.find? (fun x => x.1 == name)).map (·.2)

/-- a line; or the error's number -/
def lineP (a : Asm) (s : Bytes) (n : Int) : Except Int Asm :=
  match parseP s with
  | none => .error 2
  | some l =>
    if l.label ≠ [] then
      match place a.labels l.label with
      | some _ => .error 5
      | none => .ok { a with labels := a.labels ++ [(l.label, (a.code.length : Int))] }
    else if l.ins.op = 0 then .ok a
    else if 1024 ≤ a.code.length then .error 8
    else .ok { a with gone := if l.target ≠ [] then a.gone ++ [((a.code.length : Int), n, l.target)] else a.gone, code := a.code ++ [l.ins] }

/-- lines, from number n on; or the error's number, and where -/
def linesP : Asm → Int → List Bytes → Except (Int × Int) Asm
  | a, _, [] => .ok a
  | a, n, s :: l => match lineP a s n with | .error e => .error (e, n) | .ok a => linesP a (n + 1) l

/-- what goes to names goes to their places -/
def goes (labels : List (Bytes × Int)) : List Ins → List (Int × Int × Bytes) → Except (Int × Int) (List Ins)
  | code, [] => .ok code
  | code, (at_, line, name) :: l =>
    match place labels name with
    | none => .error (4, line)
    | some v => goes labels (code.set at_.toNat { code.getD at_.toNat default with n := v }) l

def allLines (texts : List Bytes) : List Bytes := texts.flatMap (splitOn' 10)

def assemble (texts : List Bytes) : Except (Int × Int) (List Ins × List (Bytes × Int)) :=
  match linesP { code := [], labels := [], gone := [] } 0 (allLines texts) with
  | .error e => .error e
  | .ok a => match goes a.labels a.code a.gone with | .error e => .error e | .ok code => .ok (code, a.labels)

def findL (l : List (Bytes × Int)) (name : Bytes) : Int := (place l name).getD (-1)

def entryNames : List Bytes := ["", "op.lock", "op.try", "op.unlock", "op.acquire", "op.trysome", "op.release", "op.drain", "op.await", "op.down", "op.read", "op.tryread", "op.unread", "op.write", "op.trywrite", "op.unwrite", "op.wait", "op.signal", "op.signalall", "op.swap"].map fun s => s.toUTF8.toList

/- ## what a run begins with -/
def layObj (mem : List Int) (o : Obj) : Except Int (Int × List Int) :=
  match alloc 4096 mem 16 with
  | .error e => .error e
  | .ok (at_, mem) => match alloc 4096 mem 6 with
    | .error e => .error e
    | .ok (head, mem) => .ok (at_, ((((((mem.set at_.toNat head).set (at_.toNat + 1) head).set (at_.toNat + 2) o.n).set (at_.toNat + 3) 0).set (at_.toNat + 4) o.kind).set (at_.toNat + 5) (bit o.fair)))

def layAll : List Int → List Int → List Obj → Except Int (List Int × List Int)
  | mem, bases, [] => .ok (mem, bases)
  | mem, bases, o :: l => match layObj mem o with | .error e => .error e | .ok (b, mem) => layAll mem (bases ++ [b]) l

def runFrom (code : List Ins) (labels : List (Bytes × Int)) (names : List Bytes) (s : Script) : Except Int (World' × Run) :=
  match layAll [0] [] s.objects with
  | .error e => .error e
  | .ok (mem, bases) =>
    .ok ({ s := s, code := code, entry := names.map (findL labels), bases := bases },
      { mem := mem, tab := { l := List.replicate s.programs.length default, now := 0 }, threads := List.replicate s.programs.length default, events := [] })

end Thole
