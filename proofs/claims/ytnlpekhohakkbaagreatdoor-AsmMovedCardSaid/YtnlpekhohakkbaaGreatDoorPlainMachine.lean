/- Plain Lean, no program in sight: what the machine of synchronizers computes: arena, table of permits, one step of a thread, one pick, a whole run. -/
namespace Thole

def wrap (x : Int) : Int := (x + 9223372036854775808) % 18446744073709551616 - 9223372036854775808

structure Ins where
  op : Int
  a : Int
  b : Int
  c : Int
  n : Int
  deriving DecidableEq, Repr, Inhabited

structure Frame where
  pc : Int
  r : List Int
  deriving DecidableEq, Repr, Inhabited

structure Note where
  kind : Int
  value : Int
  deriving DecidableEq, Repr, Inhabited

structure Park where
  permit : Bool
  flag : Bool
  blocked : Bool
  dl : Int
  deriving DecidableEq, Repr, Inhabited

structure Tab where
  l : List Park
  now : Int
  deriving DecidableEq, Repr, Inhabited

structure Obj where
  kind : Int
  fair : Bool
  n : Int
  deriving DecidableEq, Repr, Inhabited

structure Op where
  kind : Int
  obj : Int
  n : Int
  wait : Int
  breaks : Bool
  deriving DecidableEq, Repr, Inhabited

structure Pick where
  kind : Int
  n : Int
  deriving DecidableEq, Repr, Inhabited

structure Script where
  objects : List Obj
  programs : List (List Op)
  picks : List Pick
  deriving DecidableEq, Repr, Inhabited

structure Event where
  kind : Int
  thread : Int
  now : Int
  note : Note
  value : Int
  got : Int
  deriving DecidableEq, Repr, Inhabited

structure End' where
  done : Bool
  blocked : Bool
  trapped : Bool
  call : Int
  deriving DecidableEq, Repr, Inhabited

/- ## the arena (the cell at 0 stands for none) -/
def there (l : List Int) (at_ : Int) : Bool := decide (1 ≤ at_) && decide (at_ < l.length)
def load (l : List Int) (at_ : Int) : Option Int := if there l at_ then some (l.getD at_.toNat 0) else none
def store (l : List Int) (at_ v : Int) : Option (List Int) := if there l at_ then some (l.set at_.toNat v) else none
/-- a cell is stored into, if it holds what it is to hold: whether it did, and the cells behind it -/
def casc (l : List Int) (at_ old v : Int) : Option (Bool × List Int) :=
  if there l at_ then (if l.getD at_.toNat 0 = old then some (true, l.set at_.toNat v) else some (false, l)) else none
/-- where new cells lie, and the cells behind it; the error's number -/
def alloc (most : Int) (l : List Int) (n : Int) : Except Int (Int × List Int) :=
  if n < 1 then .error 1 else if n > most - (l.length - 1) then .error 3 else .ok (l.length, l ++ List.replicate n.toNat 0)

/- ## time -/
def addT (now ticks : Int) : Except Int Int :=
  if now < 0 ∨ ticks < 0 then .error 1 else if ticks > 9223372036854775807 - now then .ok 9223372036854775807 else .ok (now + ticks)
def deadline (now wait : Int) : Except Int Int :=
  if now < 0 ∨ wait < -1 then .error 1 else if wait = -1 then .ok (-1) else addT now wait
def due (now dl : Int) : Bool := decide (0 ≤ dl) && decide (dl ≤ now)

/- ## permits -/
def Tab.has (t : Tab) (i : Int) : Bool := decide (0 ≤ i) && decide (i < t.l.length)
def Park.on (p : Park) : Park := { p with blocked := false, dl := 0 }
def Tab.get (t : Tab) (i : Int) : Park := t.l.getD i.toNat default
def Tab.put (t : Tab) (i : Int) (p : Park) : Tab := { t with l := t.l.set i.toNat p }
/-- whether it is blocked now; the error's number -/
def Tab.park (t : Tab) (i dl : Int) : Except Int (Bool × Tab) :=
  if t.has i then
    let p := t.get i
    if p.blocked = true ∨ dl < -1 then .error 1
    else if p.permit then .ok (false, t.put i { p with permit := false })
    else if p.flag = true ∨ due t.now dl = true then .ok (false, t)
    else .ok (true, t.put i { p with blocked := true, dl := dl })
  else .error 4
def Tab.unpark (t : Tab) (i : Int) : Option Tab :=
  if t.has i then
    let p := t.get i
    some (t.put i ({ p with permit := if p.blocked then p.permit else true }).on)
  else none
def Tab.interrupt (t : Tab) (i : Int) : Option Tab :=
  if t.has i then some (t.put i ({ t.get i with flag := true }).on) else none
def Tab.clear (t : Tab) (i : Int) : Option (Bool × Tab) :=
  if t.has i then some ((t.get i).flag, t.put i { t.get i with flag := false }) else none
def Tab.wake (t : Tab) (i : Int) : Option Tab :=
  if t.has i then some (t.put i (t.get i).on) else none
def Tab.tick (t : Tab) (ticks : Int) : Except Int Tab :=
  match addT t.now ticks with
  | .error e => .error e
  | .ok now => .ok { l := t.l.map fun p => if p.blocked && due now p.dl then p.on else p, now := now }

/- ## a step -/
structure Mach where
  mem : List Int
  tab : Tab
  l : List Frame
  notes : List Note
  value : Int
  deriving DecidableEq, Repr, Inhabited

def access (x : Ins) : Bool := decide (5 ≤ x.op) && decide (x.op ≤ 7)
def Frame.get (f : Frame) (i : Int) : Int := f.r.getD i.toNat 0
def Frame.put (f : Frame) (i v : Int) : Frame := { f with r := f.r.set i.toNat v }
def Frame.next (f : Frame) : Frame := { f with pc := wrap (f.pc + 1) }
def bit (b : Bool) : Int := if b then 1 else 0

/-- what has a number, or a name, as its N; what has registers A, B, C -/
def hasN (op : Int) : Bool := decide (op = 1) || decide (op = 4) || decide (op = 5) || decide (op = 6) || decide (op = 7) || decide (op = 16) || decide (op = 21)
def hasT (op : Int) : Bool := decide (8 ≤ op) && decide (op ≤ 12)
def hasA (op : Int) : Bool := !(decide (op = 8) || decide (op = 12) || decide (op = 13) || decide (op = 20))
def hasB (op : Int) : Bool := (decide (2 ≤ op) && decide (op ≤ 7)) || (decide (9 ≤ op) && decide (op ≤ 11))
def hasC (op : Int) : Bool := decide (op = 3)
def inR (n : Int) : Bool := decide (0 ≤ n) && decide (n < 16)
def most : Int := 999999999999999999
def may (x : Ins) : Bool :=
  decide (1 ≤ x.op) && decide (x.op ≤ 22) && !(decide (x.op = 7) && decide (13 < x.a)) && (!hasN x.op || (decide (-most ≤ x.n) && decide (x.n ≤ most))) &&
  (hasA x.op || decide (x.a = 0)) && (hasB x.op || decide (x.b = 0)) && (hasC x.op || decide (x.c = 0)) && (hasN x.op || hasT x.op || decide (x.n = 0)) &&
  inR x.a && inR x.b && inR x.c

def start (pc : Int) (regs : List Int) : List Frame := [{ pc := pc, r := regs.take 16 ++ List.replicate (16 - regs.length) 0 }]

/-- an access: none: there is no such cell -/
def doAccess (mem : List Int) (x : Ins) (f : Frame) : Option (List Int × Frame) :=
  let at_ := wrap (f.get x.b + x.n)
  if x.op = 5 then (load mem at_).map fun v => (mem, f.put x.a v)
  else if x.op = 6 then (store mem at_ (f.get x.a)).map fun m => (m, f)
  else match casc mem at_ (f.get x.a) (f.get (x.a + 1)) with
    | none => none
    | some (is, m) => some (m, f.put (x.a + 2) (bit is))

def jumps (x : Ins) (f : Frame) : Bool :=
  if x.op = 8 then true else if x.op = 9 then decide (f.get x.a = f.get x.b) else if x.op = 10 then !decide (f.get x.a = f.get x.b) else decide (f.get x.a < f.get x.b)

/-- what neither goes elsewhere nor is an access: whether it may be; the table; the cells; the frame; the marks -/
def plain (mem : List Int) (tab : Tab) (notes : List Note) (i : Int) (x : Ins) (f : Frame) : Bool × List Int × Tab × Frame × List Note :=
  if x.op = 1 then (true, mem, tab, f.put x.a x.n, notes)
  else if x.op = 2 then (true, mem, tab, f.put x.a (f.get x.b), notes)
  else if x.op = 3 then (true, mem, tab, f.put x.a (wrap (f.get x.b + f.get x.c)), notes)
  else if x.op = 4 then (true, mem, tab, f.put x.a (wrap (f.get x.b + x.n)), notes)
  else if x.op = 15 then
    (let to := f.get x.a
     if 0 ≤ to ∧ to < 8 then match tab.unpark to with | some t => (true, mem, t, f, notes) | none => (false, mem, tab, f, notes)
     else (false, mem, tab, f, notes))
  else if x.op = 16 then
    (match alloc 4096 mem (max x.n 0) with | .ok (at_, m) => (true, m, tab, f.put x.a at_, notes) | .error _ => (true, mem, tab, f.put x.a 0, notes))
  else if x.op = 17 then (true, mem, tab, f.put x.a i, notes)
  else if x.op = 18 then (true, mem, tab, f.put x.a tab.now, notes)
  else if x.op = 19 then (match tab.clear i with | some (is, t) => (true, mem, t, f.put x.a (bit is), notes) | none => (false, mem, tab, f.put x.a 0, notes))
  else if x.op = 20 then (match tab.interrupt i with | some t => (true, mem, t, f, notes) | none => (false, mem, tab, f, notes))
  else if x.op = 21 then (true, mem, tab, f, notes ++ [{ kind := x.n, value := f.get x.a }])
  else (true, mem, tab, f, notes)

/-- the last frame; the frames with another last one -/
def top (l : List Frame) : Frame := l.getLastD default
def setTop (l : List Frame) (f : Frame) : List Frame := l.dropLast ++ [f]

/-- what comes of an instruction: 0: it goes on; 1: blocked; 2: done; 3: a trap; -1: a park that goes on -/
def one (i : Int) (x : Ins) (m : Mach) : Int × Mach :=
  let f := top m.l
  if access x then
    match doAccess m.mem x f with
    | none => (3, m)
    | some (mem, f) => (0, { m with mem := mem, l := setTop m.l f.next })
  else if 8 ≤ x.op ∧ x.op ≤ 11 then
    if jumps x f then (0, { m with l := setTop m.l { f with pc := x.n } }) else (0, { m with l := setTop m.l f.next })
  else if x.op = 12 then
    if 16 ≤ m.l.length then (3, m) else (0, { m with l := setTop m.l f.next ++ [{ pc := x.n, r := f.r }] })
  else if x.op = 13 then
    if m.l.length = 1 then (3, m)
    else
      let l := m.l.dropLast
      let g := top l
      (0, { m with l := setTop l ((g.put 0 (f.get 0)).put 1 (f.get 1)) })
  else if x.op = 22 then (2, { m with l := setTop m.l f.next, value := f.get x.a })
  else if x.op = 14 then
    match m.tab.park i (f.get x.a) with
    | .ok (b, t) => (if b then 1 else -1, { m with tab := t, l := setTop m.l f.next })
    | .error _ => (3, m)
  else
    let (ok, mem, tab, g, notes) := plain m.mem m.tab m.notes i x f
    if ok then (0, { m with mem := mem, tab := tab, l := setTop m.l g.next, notes := notes })
    else (3, { m with mem := mem, tab := tab, l := setTop m.l g, notes := notes })

/-- the rest of a step, n instructions having been done -/
def stepRest (code : List Ins) (i : Int) : Nat → Nat → Mach → Int × Mach
  | 0, _, m => (3, m)
  | k + 1, n, m =>
    let pc := (top m.l).pc
    if 0 ≤ pc ∧ pc < code.length ∧ n < 200 ∧ may (code.getD pc.toNat default) = true then
      let x := code.getD pc.toNat default
      if 0 < n ∧ access x = true then (0, m)
      else
        let (how, m') := one i x m
        if how = 0 then stepRest code i k (n + 1) m'
        else if how = -1 then (0, m') else (how, m')
    else (3, m)
def step (code : List Ins) (i : Int) (m : Mach) : Int × Mach := stepRest code i 201 0 m

/- ## a run -/
structure Thread where
  next : Int
  on : Bool
  trapped : Bool
  frames : List Frame
  deriving DecidableEq, Repr, Inhabited

structure Run where
  mem : List Int
  tab : Tab
  threads : List Thread
  events : List Event
  deriving DecidableEq, Repr, Inhabited

/-- what a run goes by and never turns -/
structure World' where
  s : Script
  code : List Ins
  entry : List Int
  bases : List Int

def ofKind (k : Int) : Int :=
  if k = 1 ∨ k = 2 ∨ k = 3 ∨ k = 16 ∨ k = 17 ∨ k = 18 then 1 else if 4 ≤ k ∧ k ≤ 7 then 2 else if k = 8 ∨ k = 9 then 3 else if 10 ≤ k ∧ k ≤ 15 then 4 else if k = 19 then 5 else 0

def Run.event (r : Run) (e : Event) : Run := { r with events := r.events ++ [{ e with now := r.tab.now }] }
def ev (kind thread : Int) : Event := { kind := kind, thread := thread, now := 0, note := { kind := 0, value := 0 }, value := 0, got := 0 }
def Run.thread (r : Run) (i : Int) : Thread := r.threads.getD i.toNat default
def Run.setThread (r : Run) (i : Int) (t : Thread) : Run := { r with threads := r.threads.set i.toNat t }
def opOf (s : Script) (i next : Int) : Op := (s.programs.getD i.toNat []).getD next.toNat default
def calls (s : Script) (i : Int) : Int := ((s.programs.getD i.toNat []).length : Int)

def begin' (g : World') (r : Run) (i : Int) : Bool × Run :=
  let t := r.thread i
  let o := opOf g.s i t.next
  let r := r.event (ev 1 i)
  if ofKind o.kind ≠ (g.s.objects.getD o.obj.toNat default).kind then
    let r := r.event { ev 3 i with value := 7 }
    (false, r.setThread i { t with next := wrap (t.next + 1) })
  else
    let dl := match deadline r.tab.now o.wait with | .ok d => d | .error _ => -1
    let asked := if o.kind = 4 ∨ o.kind = 5 then wrap (-o.n) else o.n
    (true, r.setThread i { t with on := true, frames := start (g.entry.getD o.kind.toNat 0) [g.bases.getD o.obj.toNat 0, asked, dl, bit o.breaks] })

def noteEvents (r : Run) (i : Int) : List Note → Run
  | [] => r
  | n :: l => noteEvents (r.event { ev 2 i with note := { n with value := max n.value (wrap (-n.value)) } }) i l

/-- v modulo 16, v divided by 16, as Go's & and >> have it -/
def low4 (v : Int) : Int := v % 16
def high (v : Int) : Int := v / 16

def walkOn (g : World') (r : Run) (i : Int) : Run :=
  let t := r.thread i
  let (how, m) := step g.code i { mem := r.mem, tab := r.tab, l := t.frames, notes := [], value := 0 }
  let r := { r with mem := m.mem, tab := m.tab }
  let r := r.setThread i { t with frames := m.l }
  let r := noteEvents r i m.notes
  if how = 2 then
    let r := r.event { ev 3 i with value := low4 m.value, got := high m.value }
    let t := r.thread i
    r.setThread i { t with on := false, next := wrap (t.next + 1) }
  else if how = 3 then r.setThread i { r.thread i with trapped := true }
  else r

def stepOf (g : World') (r : Run) (i : Int) : Run :=
  let t := r.thread i
  if (r.tab.get i).blocked || t.trapped then r
  else if t.on then walkOn g r i
  else if calls g.s i ≤ t.next then r
  else
    let (b, r) := begin' g r i
    if b then walkOn g r i else r

def pickOf (g : World') (r : Run) (p : Pick) : Except Int Run :=
  if p.kind = 2 then (match r.tab.tick p.n with | .error e => .error e | .ok t => .ok { r with tab := t })
  else if 0 ≤ p.n ∧ p.n < r.threads.length then
    if p.kind = 1 then .ok (stepOf g r p.n)
    else if p.kind = 3 then
      let r := r.event (ev 4 p.n)
      (match r.tab.interrupt p.n with | none => .error 4 | some t => .ok { r with tab := t })
    else if p.kind = 4 then (match r.tab.wake p.n with | none => .error 4 | some t => .ok { r with tab := t })
    else .ok r
  else .ok r

def picksOf (g : World') : Run → List Pick → Except Int Run
  | r, [] => .ok r
  | r, p :: l => if 20000 ≤ r.events.length then .ok r else (match pickOf g r p with | .error e => .error e | .ok r => picksOf g r l)

def endsOf (g : World') (r : Run) : List End' :=
  (List.range r.threads.length).map fun (k : Nat) =>
    let t := r.thread k
    { done := !t.on && decide (calls g.s k ≤ t.next), blocked := (r.tab.get k).blocked, trapped := t.trapped, call := if t.on then t.next else -1 }

end Thole
