/- The evaluator E: Go code run over plain data (its definitions; no theorem of the program stands here). -/
import GoSem.Dispatch
namespace Go.Ev

/-- Plain data: numbers, truths, texts, structs, slices (nil or not). -/
inductive D where
  | int (n : Int)
  | bool (b : Bool)
  | str (s : List UInt8)
  | st (fs : List D)
  | sl (nil : Bool) (es : List D)
  | bad
  deriving Inhabited

def D.n : D → Int | .int n => n | _ => 0
def D.b : D → Bool | .bool b => b | _ => false
def D.s : D → List UInt8 | .str s => s | _ => []
def D.f : D → Nat → D | .st fs, i => fs.getD i .bad | _, _ => .bad
def D.es : D → List D | .sl _ es => es | _ => []
def D.nl : D → Bool | .sl b _ => b | _ => true

/-! ### Words that stay closed where their parts are not known -/
def cnd {α : Type} (b : Bool) (x y : α) : α := match b with | true => x | false => y
def bsel (b x y : Bool) : Bool := match b with | true => x | false => y
def isel (b : Bool) (x y : Int) : Int := match b with | true => x | false => y
def ilt (x y : Int) : Bool := decide (x < y)
def ile (x y : Int) : Bool := decide (x ≤ y)
def ieq (x y : Int) : Bool := decide (x = y)
def bno (b : Bool) : Bool := match b with | true => false | false => true
def beqb (x y : Bool) : Bool := match x with | true => y | false => bno y
def iadd (k : IntKind) (x y : Int) : Int := k.wrap (x + y)
def isub (k : IntKind) (x y : Int) : Int := k.wrap (x - y)
def imul (k : IntKind) (x y : Int) : Int := k.wrap (x * y)
def iquo (k : IntKind) (x y : Int) : Int := k.wrap (x.tdiv y)
def irem (x y : Int) : Int := x.tmod y
def iwrap (k : IntKind) (x : Int) : Int := k.wrap x
def iand (k : IntKind) (x y : Int) : Int := k.wrap (BitVec.ofInt k.bits x &&& BitVec.ofInt k.bits y).toNat
def ior (k : IntKind) (x y : Int) : Int := k.wrap (BitVec.ofInt k.bits x ||| BitVec.ofInt k.bits y).toNat
def ixor (k : IntKind) (x y : Int) : Int := k.wrap (BitVec.ofInt k.bits x ^^^ BitVec.ofInt k.bits y).toNat
def iandnot (k : IntKind) (x y : Int) : Int := k.wrap (BitVec.ofInt k.bits x &&& ~~~ BitVec.ofInt k.bits y).toNat
def ishl (k : IntKind) (x y : Int) : Int := k.wrap (x * 2 ^ (min y.toNat k.bits))
def ishr (k : IntKind) (x y : Int) : Int := x.fdiv (2 ^ (min y.toNat k.bits))
/-- Does an index lie in a list of this length? -/
def inb (i : Int) (n : Nat) : Bool := decide (0 ≤ i ∧ i < n)
/-- Do bounds of a slice fit? -/
def inc (l h : Int) (n : Nat) : Bool := decide (0 ≤ l ∧ l ≤ h ∧ h ≤ n)
/-- Is there room for so many elements of so many bytes? -/
def room (n bytes : Nat) : Bool := decide (n ≤ 2 ^ 44 ∧ n * bytes ≤ 2 ^ 44)
def len {α : Type} (l : List α) : Nat := l.length
def ilen (n : Nat) : Int := n
def tn (i : Int) : Nat := i.toNat
def at_ (l : List D) (i : Nat) : D := l.getD i .bad
def put (l : List D) (i : Nat) (x : D) : List D := l.set i x
def app (l r : List D) : List D := l ++ r
def cut (l : List D) (a n : Nat) : List D := (l.drop a).take n
def empty (l : List D) : Bool := l.isEmpty
def reps (n : Nat) (d : D) : List D := List.replicate n d
def nadd (a b : Nat) : Nat := a + b
def nsub (a b : Nat) : Nat := a - b
def seq_ (a b : List UInt8) : Bool := a == b
def slt (a b : List UInt8) : Bool := Op.bytesLess a b
def sapp (a b : List UInt8) : List UInt8 := a ++ b
def scut (l : List UInt8) (a n : Nat) : List UInt8 := (l.drop a).take n
def sat (l : List UInt8) (i : Nat) : Int := (l.getD i 0).toNat
def slong (a b : List UInt8) : Bool := decide (a.length + b.length ≤ 2 ^ 62)
def obind {α β : Type} (x : Option α) (f : α → Option β) : Option β := match x with | some a => f a | none => none
def band_ (x y : Bool) : Bool := match x with | true => y | false => false

/-! ### Types -/
inductive Ty where
  | int (k : IntKind) | bool | str | slice (e : TypeId) | struct (fs : List (TypeId × Nat)) | ptr (e : TypeId) | func | map (k v : TypeId) | other
def tyOf (P : Program) (t : TypeId) : Ty :=
  match P.underlying t with
  | some (.int k) => .int k
  | some .bool => .bool
  | some .string => .str
  | some (.slice e) => .slice e
  | some (.struct fs) => .struct (fs.toList.map fun f => (f.type, f.offset))
  | some (.pointer e) => .ptr e
  | some (.func ..) => .func
  | some (.map k v) => .map k v
  | _ => .other
def ty (P : Program) (t : TypeId) : Ty := match Nat.ble (t + 1) P.types.size with | true => tyOf P t | false => .other

/-! ### What the evaluator's variables hold -/
inductive A where
  | junk
  | int (k : IntKind) (n : Int)
  | bool (b : Bool)
  | str (s : List UInt8)
  | dat (t : TypeId) (d : D)
  | st (t : TypeId) (fs : List A)
  | tup (vs : List A)
  | nsl
  | snap (e : TypeId) (nil : Bool) (es : List D) (full : Bool)
  | own (o : Nat)
  | sub (o lo n : Nat) (full : Bool)
  | ref (o : Nat) (path : List Nat)
  | eref (o i : Nat) (path : List Nat)
  | dref (t : TypeId) (d : D)
  | nptr
  | fn (f : FuncId) (first cap : List A)
  | mapr (o : Nat)
  deriving Inhabited

inductive Ob where
  | dead
  | var (t : TypeId) (a : A)
  | arr (e : TypeId) (es : List D) (nilable full rw : Bool)
  | arrA (e : TypeId) (as : List A) (full rw : Bool)
  | map (k v : TypeId) (es : List (A × A))
  deriving Inhabited

structure St where
  tmps : List A
  obs : List Ob

def mk (P : Program) (t : TypeId) (d : D) : A :=
  match ty P t with
  | .int k => .int k d.n
  | .bool => .bool d.b
  | .str => .str d.s
  | .slice e => .snap e d.nl d.es false
  | .struct _ => .dat t d
  | _ => .junk
def mkL (P : Program) : List (TypeId × Nat) → D → Nat → List A
  | [], _, _ => []
  | (t, _) :: r, d, i => mk P t (d.f i) :: mkL P r d (i + 1)
def fieldsOf (P : Program) : A → List A
  | .st _ fs => fs
  | .dat t d => match ty P t with | .struct fs => mkL P fs d 0 | _ => []
  | _ => []
def A.good : A → Bool | .tup _ => false | .junk => false | _ => true
def A.type : A → TypeId | .st t _ => t | .dat t _ => t | _ => 0
def A.isS : A → Bool | .st _ _ => true | .dat _ _ => true | _ => false
def getA (P : Program) : A → List Nat → Option A
  | a, [] => some a
  | a, i :: p => match (fieldsOf P a)[i]? with | some x => getA P x p | none => none
def setA (P : Program) : A → List Nat → A → Option A
  | _, [], x => some x
  | a, i :: p, x =>
    match a.isS, (fieldsOf P a)[i]? with
    | true, some y => match setA P y p x with | some y' => some (.st a.type ((fieldsOf P a).set i y')) | none => none
    | _, _ => none
def pathD (P : Program) : TypeId → D → List Nat → Option (TypeId × D)
  | t, d, [] => some (t, d)
  | t, d, i :: p =>
    match ty P t with
    | .struct fs => match fs[i]? with | some (ft, _) => pathD P ft (d.f i) p | none => none
    | _ => none
def fsD (d : D) (i : Nat) : Nat → List D
  | 0 => []
  | n + 1 => d.f i :: fsD d (i + 1) n
def setD (P : Program) : TypeId → D → List Nat → D → Option D
  | _, _, [], x => some x
  | t, d, i :: p, x =>
    match ty P t with
    | .struct fs => match fs[i]? with
      | some (ft, _) => match setD P ft (d.f i) p x with | some y => some (.st ((fsD d 0 fs.length).set i y)) | none => none
      | none => none
    | _ => none
def typeAt (P : Program) : TypeId → List Nat → Option TypeId
  | t, [] => some t
  | t, i :: p =>
    match ty P t with
    | .struct fs => match fs[i]? with | some (ft, _) => typeAt P ft p | none => none
    | _ => none

def zeroD (P : Program) : Nat → TypeId → D
  | 0, _ => .bad
  | n + 1, t =>
    match ty P t with
    | .int _ => .int 0
    | .bool => .bool false
    | .str => .str []
    | .slice _ => .sl true []
    | .struct fs => .st (fs.map fun x => zeroD P n x.1)
    | _ => .bad

/-- Is a type made of data alone (numbers, truths, texts, structs, slices)? -/
def plainT (P : Program) : Nat → TypeId → Bool
  | 0, _ => false
  | n + 1, t =>
    match ty P t with
    | .int _ | .bool | .str | .slice _ => true
    | .struct fs => fs.all fun x => plainT P n x.1 && P.cellsOf x.1 != 0
    | _ => false

/-- Is a value of this type? (What it holds inside is checked where it is made.) -/
def fits (P : Program) (obs : List Ob) (t : TypeId) : A → Bool
  | .int k _ => match ty P t with | .int k' => k == k' | _ => false
  | .bool _ => match ty P t with | .bool => true | _ => false
  | .str _ => match ty P t with | .str => true | _ => false
  | .dat t' _ => t == t'
  | .st t' _ => t == t'
  | .nsl => match ty P t with | .slice _ => true | _ => false
  | .snap e _ _ _ => match ty P t with | .slice e' => e == e' | _ => false
  | .own o => match ty P t, obs[o]? with
    | .slice e', some (.arr e _ _ _ _) => e == e'
    | .slice e', some (.arrA e _ _ _) => e == e'
    | _, _ => false
  | .sub o _ _ _ => match ty P t, obs[o]? with
    | .slice e', some (.arr e _ _ _ _) => e == e'
    | _, _ => false
  | .ref _ _ | .eref _ _ _ | .dref _ _ | .nptr => match ty P t with | .ptr _ => true | _ => false
  | .fn _ _ _ => match ty P t with | .func => true | _ => false
  | .mapr _ => match ty P t with | .map _ _ => true | _ => false
  | _ => false

mutual
/-- A value as data (what it points to is read). -/
def dataOf (obs : List Ob) : Nat → A → Option D
  | _, .int _ n => some (.int n)
  | _, .bool b => some (.bool b)
  | _, .str s => some (.str s)
  | _, .dat _ d => some d
  | 0, .st _ _ => none
  | n + 1, .st _ fs => match dataL obs n fs with | some l => some (.st l) | none => none
  | _, .nsl => some (.sl true [])
  | _, .snap _ nil es _ => some (.sl nil es)
  | n, .own o => match obs[o]? with
    | some (.arr _ es nilable _ _) => some (.sl (band_ nilable (empty es)) es)
    | some (.arrA _ as _ _) => match n with
      | 0 => none
      | n + 1 => match dataL obs n as with | some l => some (.sl false l) | none => none
    | _ => none
  | _, .sub o lo k _ => match obs[o]? with
    | some (.arr _ es nilable _ _) => some (.sl (band_ nilable (empty es)) (cut es lo k))
    | _ => none
  | _, _ => none
def dataL (obs : List Ob) : Nat → List A → Option (List D)
  | _, [] => some []
  | 0, _ => none
  | n + 1, a :: l => match dataOf obs n a, dataL obs n l with | some d, some r => some (d :: r) | _, _ => none
end

/-- What a value points to is written no more. -/
def frzO (obs : List Ob) (o : Nat) : List Ob :=
  match obs[o]? with
  | some (.arr e es n f _) => obs.set o (.arr e es n f false)
  | some (.arrA e as f _) => obs.set o (.arrA e as f false)
  | _ => obs
mutual
def frz : Nat → List Ob → A → List Ob
  | _, obs, .sub o _ _ _ => frzO obs o
  | 0, obs, .own o => frzO obs o
  | n + 1, obs, .own o => match obs[o]? with
    | some (.arrA _ as _ _) => frzL n (frzO obs o) as
    | _ => frzO obs o
  | n + 1, obs, .st _ fs => frzL n obs fs
  | _, obs, _ => obs
def frzL : Nat → List Ob → List A → List Ob
  | 0, obs, _ => obs
  | _, obs, [] => obs
  | n + 1, obs, a :: l => frzL n (frz n obs a) l
end

mutual
/-- Does a value bear no pointer to what may be written? -/
def A.still : A → Bool
  | .int _ _ | .bool _ | .str _ | .dat _ _ | .nsl | .snap _ _ _ _ => true
  | .st _ fs => A.stillL fs
  | _ => false
def A.stillL : List A → Bool
  | [] => true
  | a :: l => A.still a && A.stillL l
end

mutual
/-- What spoke of an array that has grown speaks of nothing. -/
def sweep (o : Nat) : A → A
  | .own p => if p == o then .junk else .own p
  | .sub p lo n f => if p == o then .junk else .sub p lo n f
  | .eref p i path => if p == o then .junk else .eref p i path
  | .st t fs => .st t (sweepL o fs)
  | .tup vs => .tup (sweepL o vs)
  | .fn f a b => .fn f (sweepL o a) (sweepL o b)
  | a => a
def sweepL (o : Nat) : List A → List A
  | [] => []
  | a :: l => sweep o a :: sweepL o l
end
def sweepO (o : Nat) : Ob → Ob
  | .var t a => .var t (sweep o a)
  | .arrA e as f rw => .arrA e (sweepL o as) f rw
  | .map k v es => .map k v (es.map fun x => (sweep o x.1, sweep o x.2))
  | ob => ob

inductive Ex where
  | normal | exit (id : Nat) | goto (l : Nat) | ret

def ofConst : Value → A
  | .int k n => .int k n
  | .bool b => .bool b
  | .string s => .str s.data.toList
  | .slice none 0 0 => .nsl
  | .pointer none => .nptr
  | _ => .junk
def ev (st : St) : Operand → A
  | .tmp t => st.tmps.getD t .junk
  | .const v => ofConst v
  | .func f => .fn f [] []
  | .global _ => .junk
def St.set (st : St) (dst : Option Tmp) (a : A) : St :=
  match dst with
  | some d => { st with tmps := st.tmps.set d a }
  | none => st

/-- Summaries of functions. -/
inductive RK where
  | dat (t : TypeId)
  | own (e : TypeId)      -- a slice in new memory, nil or not as it is told
  | ownN (e : TypeId)     -- the same, nil just if it is empty
/-- 'wr': the place of an argument (a slice) whose elements the call may change: what they are then is told behind the results. -/
structure Spec where
  f : FuncId
  ps : List TypeId
  rs : List RK
  wr : Option Nat := none
  wn : Bool := false   -- may that argument be nil?
  run : List D → Option D
structure Hnd where
  base : Nat
  fl : Nat
  k : Nat
  look : St → Option (List D)
  run : {R : Type} → List D → (Ex → St → Option R) → Option R
structure Cfg where
  S : List Spec
  L : List ((Nat × Nat × Nat) × Hnd)
  unroll : Nat
  noJoin : List (Nat × Nat) := []

/-! ### What a loop keeps: patterns of states -/
inductive Pat where
  | junk | int (k : IntKind) | bool | str | dat (t : TypeId) | st (t : TypeId) (fs : List Pat) | nsl | snap (e : TypeId) (full : Bool) | own (o : Nat) | sub (o : Nat) (full : Bool)
  | ref (o : Nat) (path : List Nat) | fn (f : FuncId) (first cap : List Pat) | mapr (o : Nat) | dref (t : TypeId) | nptr | tup (vs : List Pat)
inductive OPat where
  | dead | var (t : TypeId) (p : Pat) | arr (e : TypeId) (nilable full rw : Bool) | arrA (e : TypeId) (ps : List Pat) (full rw : Bool) | map (k v : TypeId)
mutual
/-- How many leaves. -/
def Pat.leaves : Pat → Nat
  | .int _ | .bool | .str | .dat _ | .dref _ => 1
  | .sub _ _ | .snap _ _ => 2
  | .st _ fs => Pat.leavesL fs
  | .fn _ a b => Pat.leavesL a + Pat.leavesL b
  | .tup vs => Pat.leavesL vs
  | _ => 0
def Pat.leavesL : List Pat → Nat
  | [] => 0
  | p :: l => p.leaves + Pat.leavesL l
end
def OPat.leaves : OPat → Nat
  | .var _ p => p.leaves
  | .arr _ _ _ _ => 1
  | .arrA _ ps _ _ => Pat.leavesL ps
  | _ => 0
mutual
/-- A value out of leaves, from the i-th on. -/
def Pat.inst (ls : List D) : Pat → Nat → A
  | .junk, _ => .junk
  | .int k, i => .int k (ls.getD i .bad).n
  | .bool, i => .bool (ls.getD i .bad).b
  | .str, i => .str (ls.getD i .bad).s
  | .dat t, i => .dat t (ls.getD i .bad)
  | .st t fs, i => .st t (Pat.instL ls fs i)
  | .nsl, _ => .nsl
  | .snap e f, i => .snap e (ls.getD i .bad).b (ls.getD (i + 1) .bad).es f
  | .own o, _ => .own o
  | .sub o f, i => .sub o (tn (ls.getD i .bad).n) (tn (ls.getD (i + 1) .bad).n) f
  | .ref o p, _ => .ref o p
  | .fn f a b, i => .fn f (Pat.instL ls a i) (Pat.instL ls b (i + Pat.leavesL a))
  | .mapr o, _ => .mapr o
  | .dref t, i => .dref t (ls.getD i .bad)
  | .nptr, _ => .nptr
  | .tup vs, i => .tup (Pat.instL ls vs i)
def Pat.instL (ls : List D) : List Pat → Nat → List A
  | [], _ => []
  | p :: l, i => p.inst ls i :: Pat.instL ls l (i + p.leaves)
end
def OPat.inst (ls : List D) : OPat → Nat → Ob
  | .dead, _ => .dead
  | .var t p, i => .var t (p.inst ls i)
  | .arr e n f rw, i => .arr e (ls.getD i .bad).es n f rw
  | .arrA e ps f rw, i => .arrA e (Pat.instL ls ps i) f rw
  | .map _ _, _ => .dead
def OPat.instL (ls : List D) : List OPat → Nat → List Ob
  | [], _ => []
  | p :: l, i => p.inst ls i :: OPat.instL ls l (i + p.leaves)
structure SPat where
  ts : List Pat
  os : List OPat
def SPat.inst (p : SPat) (ls : List D) : St := ⟨Pat.instL ls p.ts 0, OPat.instL ls p.os (Pat.leavesL p.ts)⟩
def Pat.known : Pat → Bool | .junk => false | _ => true
mutual
/-- The leaves of a value. -/
def Pat.look : Pat → A → Option (List D)
  | .junk, _ => some []
  | .int k, .int k' n => if k == k' then some [.int n] else none
  | .bool, .bool b => some [.bool b]
  | .str, .str s => some [.str s]
  | .dat t, .dat t' d => if t == t' then some [d] else none
  | .st t fs, .st t' as => if t == t' then Pat.lookL fs as else none
  | .nsl, .nsl => some []
  | .snap e f, .snap e' n es f' => if e == e' && (f' || !f) then some [.bool n, .sl false es] else none
  | .own o, .own o' => if o == o' then some [] else none
  | .sub o f, .sub o' l n f' => if o == o' && (f' || !f) then some [.int (ilen l), .int (ilen n)] else none
  | .ref o p, .ref o' p' => if o == o' && p == p' then some [] else none
  | .fn f a b, .fn f' x y => if f == f' && a.all Pat.known && b.all Pat.known then match Pat.lookL a x, Pat.lookL b y with | some l, some r => some (l ++ r) | _, _ => none else none
  | .mapr o, .mapr o' => if o == o' then some [] else none
  | .dref t, .dref t' d => if t == t' then some [d] else none
  | .nptr, .nptr => some []
  | .tup vs, .tup as => Pat.lookL vs as
  | _, _ => none
def Pat.lookL : List Pat → List A → Option (List D)
  | [], [] => some []
  | p :: l, a :: r => match p.look a, Pat.lookL l r with | some x, some y => some (x ++ y) | _, _ => none
  | _, _ => none
end
def OPat.look : OPat → Ob → Option (List D)
  | .dead, _ => some []
  | .var t p, .var t' a => if t == t' then p.look a else none
  | .arr e n f rw, .arr e' es n' f' rw' => if e == e' && beqb n n' && (f' || !f) && (rw' || !rw) then some [.sl false es] else none
  | .arrA e ps f rw, .arrA e' as f' rw' => if e == e' && (f' || !f) && (rw' || !rw) then Pat.lookL ps as else none
  | _, _ => none
def OPat.lookL : List OPat → List Ob → Option (List D)
  | [], [] => some []
  | p :: l, a :: r => match p.look a, OPat.lookL l r with | some x, some y => some (x ++ y) | _, _ => none
  | _, _ => none
def SPat.look (p : SPat) (st : St) : Option (List D) :=
  match Pat.lookL p.ts st.tmps, OPat.lookL p.os st.obs with | some x, some y => some (x ++ y) | _, _ => none

mutual
def A.names (o : Nat) : A → Bool
  | .own p => p == o
  | .sub p _ _ _ => p == o
  | .ref p _ => p == o
  | .eref p _ _ => p == o
  | .mapr p => p == o
  | .st _ fs => A.namesL o fs
  | .tup vs => A.namesL o vs
  | .fn _ a b => A.namesL o a || A.namesL o b
  | _ => false
def A.namesL (o : Nat) : List A → Bool
  | [] => false
  | a :: l => A.names o a || A.namesL o l
end
def Ob.names (o : Nat) : Ob → Bool
  | .var _ a => a.names o
  | .arrA _ as _ _ => A.namesL o as
  | .map _ _ es => es.any fun x => x.1.names o || x.2.names o
  | _ => false
/-- What was nothing at the loop's head is nothing again. -/
def mask : List A → List A → List A
  | .junk :: r, _ :: l => .junk :: mask r l
  | _ :: r, a :: l => a :: mask r l
  | _, l => l
/-- Of temporaries only these are kept; of things only these. -/
def keepT (ks : List Nat) : Nat → List A → List A
  | _, [] => []
  | i, a :: l => (if ks.contains i then a else .junk) :: keepT ks (i + 1) l
def keepO (ks : List Nat) : Nat → List Ob → List Ob
  | _, [] => []
  | i, a :: l => (if ks.contains i then a else .dead) :: keepO ks (i + 1) l
structure Keep where
  ts : List Nat
  os : List Nat
/-- Things made in the loop that nobody names are gone: from the last one on, as far as that goes. -/
def dropObs (ts : List A) : Nat → List Ob → List Ob
  | 0, obs => obs
  | n + 1, obs =>
    match obs.getLast? with
    | some ob =>
      if A.namesL (obs.length - 1) ts || obs.dropLast.any (Ob.names (obs.length - 1)) then obs else dropObs ts n obs.dropLast
    | none => obs
def clean (st0 st : St) : St :=
  let ts := mask st0.tmps st.tmps
  ⟨ts, dropObs ts (st.obs.length - st0.obs.length) st.obs⟩
/-- What is kept behind a loop ('n': how many things there were at its head). -/
def Keep.run (k : Keep) (n : Nat) (st : St) : St :=
  let ts := keepT k.ts 0 st.tmps
  ⟨ts, dropObs ts (st.obs.length - n) (keepO k.os 0 st.obs)⟩

section
variable {R : Type} (P : Program)

/-! ### Operations that write nothing -/
def binI (op : BinOp) (k : IntKind) (x y : Int) (K : A → Option R) : Option R :=
  match op with
  | .add => K (.int k (iadd k x y))
  | .sub => K (.int k (isub k x y))
  | .mul => K (.int k (imul k x y))
  | .quo => cnd (ieq y 0) none (K (.int k (iquo k x y)))
  | .rem => cnd (ieq y 0) none (K (.int k (irem x y)))
  | .and => K (.int k (iand k x y))
  | .or => K (.int k (ior k x y))
  | .xor => K (.int k (ixor k x y))
  | .andNot => K (.int k (iandnot k x y))
  | .eql => K (.bool (ieq x y))
  | .neq => K (.bool (bno (ieq x y)))
  | .lss => K (.bool (ilt x y))
  | .leq => K (.bool (ile x y))
  | .gtr => K (.bool (ilt y x))
  | .geq => K (.bool (ile y x))
  | _ => none
def binS (op : BinOp) (x y : List UInt8) (K : A → Option R) : Option R :=
  match op with
  | .add => cnd (slong x y) (K (.str (sapp x y))) none
  | .eql => K (.bool (seq_ x y))
  | .neq => K (.bool (bno (seq_ x y)))
  | .lss => K (.bool (slt x y))
  | .gtr => K (.bool (slt y x))
  | _ => none
/-- Are slices nil? -/
def nilOf (obs : List Ob) : A → Option Bool
  | .nsl => some true
  | .snap _ nil _ _ => some nil
  | .own o => match obs[o]? with
    | some (.arr _ es nilable _ _) => some (band_ nilable (empty es))
    | some (.arrA _ _ _ _) => some false
    | _ => none
  | .sub o _ _ _ => match obs[o]? with
    | some (.arr _ es nilable _ _) => some (band_ nilable (empty es))
    | _ => none
  | _ => none
def binE (t : TypeId) (obs : List Ob) (op : BinOp) (x y : A) (K : A → Option R) : Option R :=
  match x, y with
  | .int k a, .int k' b =>
    match op with
    | .shl => cnd (ilt b 0) none (K (.int k (ishl k a b)))
    | .shr => cnd (ilt b 0) none (K (.int k (ishr k a b)))
    | _ => if k == k' then binI op k a b K else none
  | .str a, .str b => binS op a b K
  | .bool a, .bool b => match ty P t, op with | .bool, .eql => K (.bool (beqb a b)) | .bool, .neq => K (.bool (bno (beqb a b))) | _, _ => none
  | .nsl, y => match ty P t, op, nilOf obs y with | .slice _, .eql, some b => K (.bool b) | .slice _, .neq, some b => K (.bool (bno b)) | _, _, _ => none
  | x, .nsl => match ty P t, op, nilOf obs x with | .slice _, .eql, some b => K (.bool b) | .slice _, .neq, some b => K (.bool (bno b)) | _, _, _ => none
  | _, _ => none
def unE (op : UnOp) (x : A) (K : A → Option R) : Option R :=
  match op, x with
  | .not, .bool b => K (.bool (bno b))
  | .neg, .int k n => K (.int k (isub k 0 n))
  | .xor, .int k n => K (.int k (ixor k (if k.signed then -1 else k.max) n))
  | _, _ => none

def lenE (obs : List Ob) (x : A) (K : Nat → Option R) : Option R :=
  match x with
  | .nsl => K 0
  | .snap _ _ es _ => K (len es)
  | .own o => match obs[o]? with
    | some (.arr _ es _ _ _) => K (len es)
    | some (.arrA _ as _ _) => K as.length
    | _ => none
  | .sub _ _ n _ => K n
  | _ => none
/-- Which place is it? -/
def splitIx (i : Int) : Nat → Nat → (Nat → Option R) → Option R
  | _, 0, _ => none
  | j, m + 1, K => cnd (ieq i (ilen j)) (K j) (splitIx i (j + 1) m K)
def indexE (e : TypeId) (obs : List Ob) (x : A) (i : Int) (K : A → Option R) : Option R :=
  match x with
  | .snap e' _ es _ => if e == e' && P.cellsOf e != 0 then cnd (inb i (len es)) (K (.dref e (at_ es (tn i)))) none else none
  | .own o => match obs[o]? with
    | some (.arr e' es _ _ _) => if e == e' && P.cellsOf e != 0 then cnd (inb i (len es)) (K (.eref o (tn i) [])) none else none
    | some (.arrA e' as _ _) => if e == e' && P.cellsOf e != 0 then splitIx i 0 as.length fun j => K (.eref o j []) else none
    | _ => none
  | .sub o lo n _ => match obs[o]? with
    | some (.arr e' _ _ _ _) => if e == e' && P.cellsOf e != 0 then cnd (inb i n) (K (.eref o (nadd lo (tn i)) [])) none else none
    | _ => none
  | _ => none
def below (lim : Option Nat) (o : Nat) : Bool := match lim with | some n => decide (o < n) | none => true
/-- 'lim': from there on no variable is read (in a region whose order is open: those that are made in it). -/
def loadE (lim : Option Nat) (obs : List Ob) (t : TypeId) (a : A) (K : A → Option R) : Option R :=
  match a with
  | .ref o path => match obs[o]? with
    | some (.var _ v) => match getA P v path with
      | some x => if fits P obs t x && below lim o then K x else none
      | none => none
    | _ => none
  | .eref o i path => match obs[o]? with
    | some (.arr e es _ _ _) => match pathD P e (at_ es i) path with
      | some (t', d) => if t == t' && plainT P 20 t then K (mk P t d) else none
      | none => none
    | some (.arrA e as _ _) => match path, as[i]? with
      | [], some x => if fits P obs t x && e == t then K x else none
      | _, _ => none
    | _ => none
  | .dref t' d => if t == t' && plainT P 20 t then K (mk P t d) else none
  | _ => none
def fieldAddrE (obs : List Ob) (s f : Nat) (a : A) (K : A → Option R) : Option R :=
  match ty P s with
  | .struct fs => match fs[f]? with
    | some (ft, _) =>
      if P.cellsOf ft == 0 then none else
      match a with
      | .ref o path => match obs[o]? with
        | some (.var t _) => if typeAt P t path == some s then K (.ref o (path ++ [f])) else none
        | _ => none
      | .eref o i path => match obs[o]? with
        | some (.arr e _ _ _ _) => if typeAt P e path == some s then K (.eref o i (path ++ [f])) else none
        | _ => none
      | .dref t d => if t == s then K (.dref ft (d.f f)) else none
      | _ => none
    | none => none
  | _ => none

/-- A bound of a slice. -/
def bndE (st : St) (x : Option Operand) (d : Int) (K : Int → Option R) : Option R :=
  match x with
  | none => K d
  | some x => match ev st x with | .int _ i => K i | _ => none
/-- What a slice of so many elements becomes: from where on, how many, and whether nothing lies behind it. -/
def hiFlag (hi : Option Operand) (f : Bool) : Bool := match hi with | none => f | some _ => false
def cutM (st : St) (n : Nat) (hi mx : Option Operand) (f : Bool) (K : Nat → Nat → Bool → Option R) (l h : Int) : Option R :=
  match mx with
  | none => cnd (inc l h n) (K (tn l) (nsub (tn h) (tn l)) (hiFlag hi f)) none
  | some m => match hi, ev st m with
    | some _, .int _ m => cnd (inc l h n) (cnd (ieq h m) (K (tn l) (nsub (tn h) (tn l)) true) none) none
    | _, _ => none
def cutE (st : St) (n : Nat) (lo hi mx : Option Operand) (f : Bool) (K : Nat → Nat → Bool → Option R) : Option R :=
  bndE st lo 0 fun l => bndE st hi (ilen n) fun h => cutM st n hi mx f K l h
def sliceE (t : Ty) (st : St) (x : A) (lo hi mx : Option Operand) (K : A → Option R) : Option R :=
  match t, x with
  | .slice e, .snap e' nil es f => if e == e' && P.cellsOf e != 0 then cutE st (len es) lo hi mx f fun l n f => K (.snap e nil (cut es l n) f) else none
  | .slice e, .own o => match st.obs[o]? with
    | some (.arr e' es _ f _) => if e == e' && P.cellsOf e != 0 then cutE st (len es) lo hi mx f fun l n f => K (.sub o l n f) else none
    | _ => none
  | .slice e, .sub o b n f => match st.obs[o]? with
    | some (.arr e' _ _ _ _) => if e == e' && P.cellsOf e != 0 then cutE st n lo hi mx f fun l n f => K (.sub o (nadd b l) n f) else none
    | _ => none
  | .slice e, .nsl => if P.cellsOf e != 0 then cutE st 0 lo hi mx false fun _ _ _ => K .nsl else none
  | .str, .str s => match mx with
    | none => cutE st (len s) lo hi none false fun l n _ => K (.str (scut s l n))
    | some _ => none
  | _, _ => none

def setParts : List A → List (Nat × A) → List A
  | fs, [] => fs
  | fs, (i, a) :: r => setParts (fs.set i a) r
def fitParts (obs : List Ob) (fs : List (TypeId × Nat)) : List (Nat × A) → Bool
  | [] => true
  | (i, a) :: r => (match fs[i]? with | some (t, _) => fits P obs t a | none => false) && fitParts obs fs r
def datParts (obs : List Ob) (e : TypeId) : List D → List (Nat × A) → Option (List D)
  | ds, [] => some ds
  | ds, (i, a) :: r =>
    match a.still, fits P obs e a, dataOf obs 60 a with
    | true, true, some d => if i < ds.length then datParts obs e (ds.set i d) r else none
    | _, _, _ => none
def allFit (obs : List Ob) (e : TypeId) : List A → Bool
  | [] => true
  | a :: l => fits P obs e a && allFit obs e l
/-- Parts that stand for all places, in order. -/
def inOrder : Nat → List (Nat × A) → Bool
  | _, [] => true
  | n, (i, _) :: r => n == i && inOrder (n + 1) r

def mapIs (x : Ty) (k v : TypeId) : Bool := match x with | .map a b => a == k && b == v | _ => false
def lookI : List (A × A) → Int → Int → Option (Int × Bool)
  | [], _, z => some (z, false)
  | (.int _ k, .int _ v) :: r, x, z => match lookI r x z with | some (a, b) => some (isel (ieq x k) v a, bsel (ieq x k) true b) | none => none
  | _, _, _ => none

def pureOp (lim : Option Nat) (o : Oper) (st : St) (K : A → List Ob → Option R) : Option R :=
  match o.op with
  | .move x => K (ev st x) st.obs
  | .pick c a b => match ev st c with
    | .bool p => match ev st a, ev st b with
      | .bool x, .bool y => K (.bool (bsel p x y)) st.obs
      | x, y => cnd p (K x st.obs) (K y st.obs)
    | _ => none
  | .alloc t => if plainT P 20 t then K (.ref st.obs.length []) (st.obs ++ [.var t (mk P t (zeroD P 20 t))]) else none
  | .box t x => if fits P st.obs t (ev st x) then K (.ref st.obs.length []) (st.obs ++ [.var t (ev st x)]) else none
  | .build t parts =>
    match ty P t with
    | .struct fs =>
      let ps := parts.toList.map fun x => (x.1, ev st x.2)
      if plainT P 20 t && fitParts P st.obs fs ps then K (.st t (setParts (mkL P fs (zeroD P 20 t) 0) ps)) st.obs else none
    | _ => none
  | .buildSlice t n parts =>
    match ty P t with
    | .slice e =>
      if n * P.cellsOf e > 2 ^ 24 || P.cellsOf e == 0 then none else
      let ps := parts.toList.map fun x => (x.1, ev st x.2)
      if !plainT P 20 e then none else
      match datParts P st.obs e (List.replicate n (zeroD P 20 e)) ps with
      | some ds => K (.own st.obs.length) (st.obs ++ [.arr e ds false true true])
      | none => if allFit P st.obs e (ps.map (·.2)) && inOrder 0 ps && ps.length == n then K (.own st.obs.length) (st.obs ++ [.arrA e (ps.map (·.2)) true true]) else none
    | _ => none
  | .load t a => loadE P lim st.obs t (ev st a) fun x => K x st.obs
  | .nilCheck x => match ev st x with
    | .ref o p => K (.ref o p) st.obs
    | .eref o i p => K (.eref o i p) st.obs
    | .dref t d => K (.dref t d) st.obs
    | _ => none
  | .binOp op t x y _ => binE P t st.obs op (ev st x) (ev st y) fun a => K a st.obs
  | .unOp op _ x => unE op (ev st x) fun a => K a st.obs
  | .convert t d x => match ty P t, ty P d, ev st x with
    | .int _, .int k, .int _ n => K (.int k (iwrap k n)) st.obs
    | .str, .str, .str s => K (.str s) st.obs
    | _, _, _ => none
  | .makeFunc (.func f) a b => if (a.toList.all fun x => (ev st x).good) && (b.toList.all fun x => (ev st x).good) then K (.fn f (a.toList.map (ev st)) (b.toList.map (ev st))) st.obs else none
  | .makeMap t none => match ty P t with
    | .map k v => K (.mapr st.obs.length) (st.obs ++ [.map k v []])
    | _ => none
  | .makeSlice t l c => match ty P t, ev st l, ev st c with
    | .slice e, .int .i64 n, .int .i64 m =>
      if plainT P 20 e && P.cellsOf e != 0 then
        cnd (ile 0 n) (cnd (ile n m) (cnd (room (tn m) (P.bytesOf e)) (K (.own st.obs.length) (st.obs ++ [.arr e (reps (tn n) (zeroD P 20 e)) false false true])) none) none) none
      else none
    | _, _, _ => none
  | .slice t x lo hi mx => sliceE P (ty P t) st (ev st x) lo hi mx fun a => K a st.obs
  | .fieldAddr s x f => fieldAddrE P st.obs s f (ev st x) fun a => K a st.obs
  | .field t x f => if (ev st x).isS && (ev st x).type == t && (typeAt P t [f]).isSome then match getA P (ev st x) [f] with | some a => if fits P st.obs ((typeAt P t [f]).getD 0) a then K a st.obs else none | none => none else none
  | .indexAddr t x i => match ty P t, ev st i with | .slice e, .int _ n => indexE P e st.obs (ev st x) n fun a => K a st.obs | _, _ => none
  | .index t x i => match ty P t, ev st x, ev st i with
    | .str, .str s, .int _ n => cnd (inb n (len s)) (K (.int .u8 (sat s (tn n))) st.obs) none
    | _, _, _ => none
  | .lookup t m k ok => match ev st m, ev st k with
    | .mapr o, .int kk n => match st.obs[o]? with
      | some (.map kt vt es) => match ty P kt, ty P vt with
        | .int kk', .int vk => if kk == kk' && mapIs (ty P t) kt vt then match lookI es n 0 with
            | some (v, b) => K (if ok then .tup [.int vk v, .bool b] else .int vk v) st.obs
            | none => none else none
        | _, _ => none
      | _ => none
    | _, _ => none
  | .extract t i => match ev st t with
    | .tup vs => match vs[i]? with | some a => K a st.obs | none => none
    | _ => none
  | _ => none

/-- A variable takes a value: a nil slice as one that may grow. -/
def assignE (o : Oper) (x : Operand) (st : St) (K : A → List Ob → Option R) : Option R :=
  match ev st x with
  | .nsl => match ty P o.type with
    | .slice e => if plainT P 20 e && P.cellsOf e != 0 then K (.own st.obs.length) (st.obs ++ [.arr e [] true false true]) else K .nsl st.obs
    | _ => K .nsl st.obs
  | a => K a st.obs

/-! ### Calls of builtins that write nothing -/
def pureBuiltin (b : Builtin) (ts : Array TypeId) (args : List A) (obs : List Ob) (K : A → List Ob → Option R) : Option R :=
  match b, args with
  | .len, [x] => match ts[0]? with
    | some t => match ty P t, x with
      | .str, .str s => K (.int .i64 (ilen (len s))) obs
      | .slice _, .str _ => none
      | .slice _, x => lenE obs x fun n => K (.int .i64 (ilen n)) obs
      | _, _ => none
    | none => none
  | .cap, [.nsl] => match ts[0]? with
    | some t => match ty P t with
      | .slice _ => K (.int .i64 0) obs
      | _ => none
    | none => none
  | .min, [.int k x, .int k' y] => if k == k' then K (.int k (isel (ilt y x) y x)) obs else none
  | .max, [.int k x, .int k' y] => if k == k' then K (.int k (isel (ilt x y) y x)) obs else none
  | _, _ => none

/-! ### Summaries -/
def datArgs (obs : List Ob) : List TypeId → List A → Option (List D)
  | [], [] => some []
  | t :: ts, a :: as => match fits P obs t a && plainT P 20 t, dataOf obs 60 a, datArgs obs ts as with
    | true, some d, some ds => some (d :: ds)
    | _, _, _ => none
  | _, _ => none
def scalarT (t : TypeId) : Bool := match ty P t with | .int _ | .bool | .str => true | _ => false
def RK.scalar : RK → Bool | .dat t => scalarT P t | _ => false
def isOwn : RK → Bool | .dat _ => false | _ => true
def frzAll : List Ob → List A → List Ob
  | obs, [] => obs
  | obs, a :: l => frzAll (frz 60 obs a) l
/-- The results of a summary, one by one. -/
def outE : List RK → (Nat → D) → Nat → List A → List Ob → (List A → List Ob → Option R) → Option R
  | [], _, _, acc, obs, K => K acc.reverse obs
  | .dat t :: r, g, i, acc, obs, K => outE r g (i + 1) (mk P t (g i) :: acc) obs K
  | .own e :: r, g, i, acc, obs, K =>
    cnd (g i).nl (outE r g (i + 1) (.nsl :: acc) obs K) (outE r g (i + 1) (.own obs.length :: acc) (obs ++ [.arr e (g i).es false false true]) K)
  | .ownN e :: r, g, i, acc, obs, K => outE r g (i + 1) (.own obs.length :: acc) (obs ++ [.arr e (g i).es true false true]) K
def outs (rs : List RK) (d : D) (obs : List Ob) (K : A → List Ob → Option R) : Option R :=
  match rs with
  | [r] => outE P [r] (fun _ => d) 0 [] obs fun as obs => match as with | [a] => K a obs | _ => none
  | rs => if (rs.filter isOwn).length ≤ 1 then outE P rs (fun i => d.f i) 0 [] obs fun as obs => K (.tup as) obs else none
/-- 'may': may what the arguments point to be written no more from here on? -/
def sumE (may : Bool) (fl : Nat) (s : Spec) (args : List A) (obs : List Ob) (K : A → List Ob → Option R) : Option R :=
  match datArgs P obs s.ps args with
  | none => none
  | some ds =>
    match s.wr with
    | none =>
      match s.rs.all (RK.scalar P) || args.all A.still, may with
      | true, _ => obind (s.run ds) fun d => outs P s.rs d obs K
      | false, true => obind (s.run ds) fun d => outs P s.rs d (frzAll obs args) K
      | false, false => none
    | some i =>
      -- all results are scalars; the other arguments are still
      if may && s.rs.all (RK.scalar P) && (args.eraseIdx i).all A.still then
        match args[i]? with
        | some (.own o) => match obs[o]? with
          | some (.arr e es n f true) =>
            if fl ≤ o && (s.wn || !n) then obind (s.run ds) fun d => outE P s.rs (fun i => d.f i) 0 [] (obs.set o (.arr e (d.f s.rs.length).es n f true)) fun as obs => match as with | [a] => K a obs | as => K (.tup as) obs
            else none
          | _ => none
        | some .nsl => if s.wn then obind (s.run ds) fun d => outE P s.rs (fun i => d.f i) 0 [] obs fun as obs => match as with | [a] => K a obs | as => K (.tup as) obs else none
        | _ => none
      else none

def findSpec : List Spec → FuncId → Option Spec
  | [], _ => none
  | s :: r, f => if s.f == f then some s else findSpec r f
def hasHnd : List ((Nat × Nat × Nat) × Hnd) → Nat × Nat × Nat → Bool
  | [], _ => false
  | (k, _) :: r, x => if k == x then true else hasHnd r x
/-- The first one that takes the state. -/
def tryHnd {R : Type} : List ((Nat × Nat × Nat) × Hnd) → Nat × Nat × Nat → Nat → Nat → Nat → St → (Ex → St → Option R) → Option R
  | [], _, _, _, _, _, _ => none
  | (k, h) :: r, x, b, f, d, st, K =>
    if k == x && h.base == b && h.fl == f && h.k == d then match h.look st with
      | some ls => h.run ls K
      | none => tryHnd r x b f d st K
    else tryHnd r x b f d st K

/-- Does one of them take the state? -/
def fitHnd : List ((Nat × Nat × Nat) × Hnd) → Nat × Nat × Nat → Nat → Nat → Nat → St → Bool
  | [], _, _, _, _, _ => false
  | (k, h) :: r, x, b, f, d, st =>
    if k == x && h.base == b && h.fl == f && h.k == d then match h.look st with
      | some _ => true
      | none => fitHnd r x b f d st
    else fitHnd r x b f d st

/-- What is called, and with which arguments. -/
def target (st : St) (c : Call) : Option (FuncId × List A) :=
  match c.callee with
  | .value f => match ev st f with
    | .fn f a b => some (f, a ++ c.args.toList.map (ev st) ++ b)
    | _ => none
  | _ => none

/-- An operation that writes nothing: of calls those of builtins and of summaries. -/
def stillOp (cf : Cfg) (may : Bool) (lim : Option Nat) (o : Oper) (st : St) (K : A → List Ob → Option R) : Option R :=
  match o.op with
  | .call c => match c.callee with
    | .builtin b => pureBuiltin P b c.argTypes (c.args.toList.map (ev st)) st.obs K
    | _ => match target st c with
      | some (f, args) => match findSpec cf.S f with
        | some s => sumE P (may && s.wr.isNone) 0 s args st.obs K
        | none => none
      | none => none
  | .assign x => assignE P o x st K
  | _ => pureOp P lim o st K

/-! ### Operations that write -/
/-- What is written: which thing, and what it is then. -/
def storeOb (t : TypeId) (fl : Nat) (obs : List Ob) (addr v : A) : Option (Nat × Ob) :=
  if !fits P obs t v then none else
  match addr with
  | .ref o path => match obs[o]? with
    | some (.var t0 a) =>
      if fl ≤ o && typeAt P t0 path == some t then
        match setA P a path v with
        | some a' => some (o, .var t0 a')
        | none => none
      else none
    | _ => none
  | .eref o i path => match obs[o]? with
    | some (.arr e es n f true) =>
      if fl ≤ o && typeAt P e path == some t && v.still && plainT P 20 e then
        match dataOf obs 60 v with
        | some x => match setD P e (at_ es i) path x with
          | some d => some (o, .arr e (put es i d) n f true)
          | none => none
        | none => none
      else none
    | _ => none
  | _ => none
def storeE (t : TypeId) (fl : Nat) (st : St) (addr v : A) (K : List Ob → Option R) : Option R :=
  match storeOb P t fl st.obs addr v with
  | some (o, ob) => K (st.obs.set o ob)
  | none => none

/-- What is appended, as data. -/
def srcE (obs : List Ob) (e : TypeId) (x : A) : Option (List D) :=
  match x with
  | .nsl => some []
  | .snap e' _ es _ => if e == e' then some es else none
  | .own o => match obs[o]? with | some (.arr e' es _ _ _) => if e == e' then some es else none | _ => none
  | .sub o lo n _ => match obs[o]? with | some (.arr e' es _ _ _) => if e == e' then some (cut es lo n) else none | _ => none
  | _ => none
def srcAt (x : A) : Nat := match x with | .own q => q | _ => 0
/-- append: the array's old names are swept away. -/
def appendE (base : Nat) (t : TypeId) (st : St) (s x : A) (K : A → St → Option R) : Option R :=
  match ty P t with
  | .slice e =>
    if P.cellsOf e == 0 || !plainT P 20 e then none else
    match srcE st.obs e x with
    | none => none
    | some xs =>
      match s with
      | .nsl => cnd (room (len xs) (P.bytesOf e)) (K (.own st.obs.length) { st with obs := st.obs ++ [.arr e xs true false true] }) none
      | .snap e' nil es f =>
        if e == e' then
          cnd (bsel nil true f) (cnd (room (nadd (len es) (len xs)) (P.bytesOf e)) (K (.snap e (band_ nil (empty xs)) (app es xs) false) st) none) none
        else none
      | .own o => match st.obs[o]? with
        | some (.arr e' es n _ true) =>
          if e == e' && base ≤ o then
            cnd (room (nadd (len es) (len xs)) (P.bytesOf e))
              (K (.own o) { tmps := st.tmps.map (sweep o), obs := (st.obs.map (sweepO o)).set o (.arr e (app es xs) n false true) }) none
          else none
        | _ => none
      | _ => none
  | _ => none
/-- append of so many zeros to nothing. -/
def appendZE (t t' : TypeId) (st : St) (s x : A) (K : A → St → Option R) : Option R :=
  match ty P t, ty P t', s, x with
  | .slice e, .int _, .nsl, .int .i64 n =>
    if P.cellsOf e != 0 && plainT P 20 e then
      cnd (ilt 0 n) (cnd (room (tn n) (P.bytesOf e)) (K (.own st.obs.length) { st with obs := st.obs ++ [.arr e (reps (tn n) (zeroD P 20 e)) false false true] }) none) none
    else none
  | _, _, _, _ => none
/-- append onto the first ones of an array that is not empty: its old names are swept. -/
def appendSE (base : Nat) (t : TypeId) (st : St) (s x : A) (K : A → St → Option R) : Option R :=
  match ty P t, s, srcE st.obs (match ty P t with | .slice e => e | _ => 0) x with
  | .slice e, .sub o lo n _, some xs => match st.obs[o]? with
    | some (.arr e' es n0 _ true) =>
      if e == e' && base ≤ o && P.cellsOf e != 0 && plainT P 20 e then
        cnd (ieq (ilen lo) 0) (cnd (bsel n0 (bno (empty es)) true) (cnd (room (nadd n (len xs)) (P.bytesOf e))
          (K (.sub o 0 (nadd n (len xs)) false) { tmps := st.tmps.map (sweep o), obs := (st.obs.map (sweepO o)).set o (.arr e (app (cut es 0 n) xs) false false true) }) none) none) none
      else none
    | _ => none
  | _, _, _ => none
/-- append of pointers, functions, slices that are written. -/
def appendAE (base : Nat) (t : TypeId) (st : St) (s x : A) (K : A → St → Option R) : Option R :=
  match ty P t, s, x with
  | .slice e, .own o, .own q => match st.obs[o]?, st.obs[q]? with
    | some (.arrA e' as _ true), some (.arrA e'' bs _ _) =>
      if e == e' && e == e'' && base ≤ o && o != q && P.cellsOf e != 0 && plainT P 20 e && !A.namesL o as && !A.namesL o bs then
        cnd (room (as.length + bs.length) (P.bytesOf e))
          (K (.own o) { tmps := st.tmps.map (sweep o), obs := (st.obs.map (sweepO o)).set o (.arrA e (as ++ bs) false true) }) none
      else none
    | _, _ => none
  | _, _, _ => none

def clearE (fl : Nat) (t : TypeId) (st : St) (s : A) (K : St → Option R) : Option R :=
  match ty P t, s with
  | .slice e, .sub o lo n _ => match st.obs[o]? with
    | some (.arr e' es nn f true) =>
      if e == e' && fl ≤ o && plainT P 20 e && P.cellsOf e != 0 then K { st with obs := st.obs.set o (.arr e (app (cut es 0 lo) (app (reps n (zeroD P 20 e)) (cut es (nadd lo n) (len es)))) nn f true) } else none
    | _ => none
  | _, _ => none

/-- A map's entries with one more (keys and values are numbers). -/
def insI : List (A × A) → IntKind → Int → IntKind → Int → Option (List (A × A))
  | [], k, x, k', v => some [(.int k x, .int k' v)]
  | (.int q y, w) :: r, k, x, k', v =>
    match decide (y = x) with
    | true => none
    | false => match insI r k x k' v with | some l => some ((.int q y, w) :: l) | none => none
  | _, _, _, _, _ => none

variable (cf : Cfg)

/-- The first region's number in a code: a loop's name. -/
def firstReg : Code → Nat
  | .seq a _ => firstReg a
  | .region id _ _ => id
  | .block _ c => firstReg c
  | .loop c => firstReg c
  | .scope c => firstReg c
  | .cond _ c _ => firstReg c
  | _ => 0

structure Ctx where
  cx : Nat       -- the way of calls
  fn : FuncId
  base : Nat     -- what was there when the call began
  fl : Nat       -- what may be written
  k : Nat        -- how deep calls may go from here

abbrev CallE (R : Type) := Ctx → FuncId → List A → List Ob → (A → List Ob → Option R) → Option R

/-- One operation, whatever it does. -/
def oneOp (call : CallE R) (c : Ctx) (o : Oper) (st : St) (K : St → Option R) : Option R :=
  match o.op with
  | .assign x => assignE P o x st fun a obs => K (St.set { st with obs := obs } o.dst a)
  | .store t a v => storeE P t c.fl st (ev st a) (ev st v) fun obs => K (St.set { st with obs := obs } o.dst .junk)
  | .insert t m k v => match ev st m, ev st k, ev st v with
    | .mapr ob, .int kk n, .int vk w => match st.obs[ob]? with
      | some (.map kt vt es) => match ty P kt, ty P vt with
        | .int kk', .int vk' => if c.fl ≤ ob && kk == kk' && vk == vk' && mapIs (ty P t) kt vt then match insI es kk n vk w with
            | some es' => K (St.set { st with obs := st.obs.set ob (.map kt vt es') } o.dst .junk)
            | none => none else none
        | _, _ => none
      | _ => none
    | _, _, _ => none
  | .call cl => match cl.callee with
    | .builtin .append => match cl.argTypes.toList, cl.args.toList.map (ev st) with
      | [t, t'], [s, x] => if t == t' then match s, st.obs[srcAt x]?, x with
        | .sub _ _ _ _, _, _ => appendSE P c.base t st s x fun a st => K (st.set o.dst a)
        | _, some (.arrA _ _ _ _), .own _ => appendAE P c.base t st s x fun a st => K (st.set o.dst a)
        | _, _, _ => appendE P c.base t st s x fun a st => K (st.set o.dst a)
        else appendZE P t t' st s x fun a st => K (st.set o.dst a)
      | _, _ => none
    | .builtin .clear => match cl.argTypes.toList, cl.args.toList.map (ev st) with
      | [t], [s] => clearE P c.fl t st s fun st => K (st.set o.dst (.tup []))
      | _, _ => none
    | .builtin b => pureBuiltin P b cl.argTypes (cl.args.toList.map (ev st)) st.obs fun a obs => K (St.set { st with obs := obs } o.dst a)
    | _ => match target st cl with
      | some (f, args) => match findSpec cf.S f with
        | some s => sumE P true c.fl s args st.obs fun a obs => K (St.set { st with obs := obs } o.dst a)
        | none => call { c with cx := c.cx * 1024 + (match o.dst with | some d => d + 1 | none => 0) } f args st.obs fun a obs => K (St.set { st with obs := obs } o.dst a)
      | none => none
  | _ => pureOp P none o st fun a obs => K (St.set { st with obs := obs } o.dst a)

/-- The guard of an operation. -/
def guardE (ops : Array Oper) (o : Oper) (st : St) (yes no : St → Option R) : Option R :=
  match o.guard with
  | none => yes st
  | some (j, want) =>
    match (ops[j]?).bind (·.dst) with
    | none => none
    | some d => match st.tmps[d]? with
      | some (.bool b) =>
        match want with
        | true => cnd b (yes (st.set (some d) (.bool true))) (no (st.set (some d) (.bool false)))
        | false => cnd b (no (st.set (some d) (.bool true))) (yes (st.set (some d) (.bool false)))
      | some (.tup []) => no st
      | _ => none

/-- Operations one behind the other. -/
def opsE (call : CallE R) (c : Ctx) (ops : Array Oper) : List Oper → St → (St → Option R) → Option R
  | [], st, K => K st
  | o :: r, st, K => guardE ops o st (fun st => oneOp P cf call c o st fun st => opsE call c ops r st K) (fun st => opsE call c ops r (st.set o.dst (.tup [])) K)
/-- What an operation reads. -/
def readsOf (ops : Array Oper) (o : Oper) : List Tmp :=
  (o.op.operands.toList.filterMap fun | .tmp t => some t | _ => none) ++ (match o.guard with | some (j, _) => ((ops[j]?).bind (·.dst)).toList | none => [])
/-- An append to what a temporary bears. -/
def appOf (o : Oper) : Option (TypeId × Tmp × Operand) :=
  match o.guard, o.op with
  | none, .call c => match c.callee, c.argTypes.toList, c.args.toList with
    | .builtin .append, [t, t'], [.tmp x, y] => if t == t' then some (t, x, y) else none
    | _, _, _ => none
  | _, _ => none
/-- Is it an empty literal's array, with no room behind it? -/
def litE (obs : List Ob) (e : TypeId) (x : A) : Bool :=
  match x with
  | .own o => match obs[o]? with
    | some (.arr e' [] false true _) => e == e'
    | _ => false
  | _ => false
def opOf (ops : Array Oper) (d : Tmp) : Option Oper := ops.toList.find? fun p => p.dst == some d
/-- Is there another append behind it? -/
def innerT (ops : Array Oper) (d : Tmp) : Bool := ops.toList.any fun p => match appOf p with | some (_, x, _) => x == d | none => false
def selfOf (y : Operand) (d : Tmp) : Bool := match y with | .tmp r => r == d | _ => false
/-- An append in a region whose order is open: onto an empty literal, or onto what such an append has made (of that nothing is known till then). -/
def chainE (ops : Array Oper) (o : Oper) (t : TypeId) (x : Tmp) (y : Operand) (st : St) (K : St → Option R) : Option R :=
  match ty P t, o.dst with
  | .slice e, some d =>
    if P.cellsOf e == 0 || !plainT P 20 e || x == d || selfOf y d || !Nat.blt d st.tmps.length then none else
    match srcE st.obs e (ev st y) with
    | none => none
    | some ys =>
      match litE st.obs e (st.tmps.getD x .junk) with
      | true => cnd (room (len ys) (P.bytesOf e)) (match innerT ops d with
        | true => K (st.set (some d) .junk)
        | false => K (st.set (some d) (.snap e false ys false))) none
      | false =>
        match opOf ops x with
        | none => none
        | some p => match appOf p with
          | none => none
          | some (t', _, y') => match t == t' && !innerT ops d with
            | false => none
            | true => match srcE st.obs e (ev st y') with
              | none => none
              | some xs => cnd (room (nadd (len xs) (len ys)) (P.bytesOf e)) (K (st.set (some d) (.snap e false (app xs ys) false))) none
  | _, _ => none
/-- Operations that write nothing, one behind the other; stores are passed by. -/
def stillE (may : Bool) (lim : Option Nat) (ops : Array Oper) : List Oper → St → (St → Option R) → Option R
  | [], st, K => K st
  | o :: r, st, K =>
    match o.op with
    | .store _ _ _ => stillE may lim ops r st K
    | _ => match (if may && lim.isSome then appOf o else none) with
      | some (t, x, y) => chainE P ops o t x y st fun st => stillE may lim ops r st K
      | none => guardE ops o st (fun st => stillOp P cf may lim o st fun a obs => stillE may lim ops r (St.set { st with obs := obs } o.dst a) K) (fun st => stillE may lim ops r (st.set o.dst (.tup [])) K)
/-- May an operation stand in a region whose order is open? -/
def isStill (o : Oper) : Bool :=
  match o.op with
  | .store _ _ _ | .insert _ _ _ _ | .mapUpdate _ _ _ _ | .panic _ | .defer _ | .go _ => false
  | .call c => match c.callee with | .builtin b => (match b with | .append => false | .clear => false | .copy => false | .panic => false | .delete => false | .recover => false | _ => true) | _ => true
  | _ => true
def isStore (o : Oper) : Bool := match o.op with | .store _ _ _ => o.guard.isNone && o.dst.isNone | _ => false
/-- Does an operation read memory? -/
def isRd (o : Oper) : Bool :=
  match o.op with
  | .load _ _ | .lookup _ _ _ _ => true
  | .call c => match c.callee with | .builtin b => (match b with | .append => true | _ => false) | _ => true
  | _ => false
def onsOf (o : Oper) : List Nat := (o.after.toList.filter fun e => Region.binds .any e).map (·.on)
/-- A store into a variable that is made in this region, of which nothing else there knows. -/
def private_ (ops : Array Oper) (i : Nat) (o : Oper) : Bool :=
  match o.op with
  | .store _ (.tmp x) v =>
    (match v with | .tmp y => x != y | _ => true) &&
    ops.toList.any (fun p => p.dst == some x && (match p.op with | .alloc _ => true | _ => false)) &&
    (List.range ops.size).all fun j => j == i || (match ops[j]? with | some p => !(readsOf ops p).contains x | none => true)
  | _ => false
/-- Is it of no account which of two comes first, or does the second one stand behind the first? -/
def pairOk (ops : Array Oper) (j i : Nat) (p o : Oper) : Bool :=
  ((onsOf o).contains j ||
    (!(match p.dst with | some d => (readsOf ops o).contains d | none => false) &&
     !(match o.dst with | some d => (readsOf ops p).contains d | none => false) &&
     !(isStore o && !private_ ops i o && isRd p))) &&
  (match p.dst with | some d => o.dst != some d | none => true) &&
  !((isStore p || (appOf p).isSome) && (match o.dst with | some d => (readsOf ops p).contains d | none => false)) &&
  ((appOf p).isNone || (appOf o).isNone || (match appOf o, p.dst with | some (_, x, _), some d => x == d | _, _ => false))
def drawOk (ops : Array Oper) : Bool :=
  (List.range ops.size).all fun i => match ops[i]? with
    | none => false
    | some o => (isStill o || isStore o || (appOf o).isSome) && (onsOf o).all (fun j => decide (j < i)) && (List.range i).all fun j => match ops[j]? with
      | none => false
      | some p => pairOk ops j i p o && !(isStore p && !private_ ops j p && isRd o)
def isVar : Option Ob → Bool | some (.var _ _) => true | _ => false
def tgtOf : A → Nat | .ref o _ => o | .eref o _ _ => o | _ => 0
/-- Things, but for one as it stands in another list. -/
def withTop (obs acc : List Ob) (x : Nat) : List Ob := match acc[x]? with | some ob => obs.set x ob | none => obs
/-- The stores of a region whose order is open: of two into one thing the second one stands behind the first. -/
def storesE (fl lim : Nat) (ops : Array Oper) (st : St) : Nat → List Oper → List (Nat × Nat) → List Ob → (List Ob → Option R) → Option R
  | _, [], _, acc, K => K acc
  | i, o :: r, seen, acc, K =>
    match o.op with
    | .store t a v => match storeOb P t fl (withTop st.obs acc (tgtOf (ev st a))) (ev st a) (ev st v) with
      | some (x, ob) =>
        if !(seen.all fun p => p.2 != x || (onsOf o).contains p.1) || (private_ ops i o && !(decide (lim ≤ x) && isVar st.obs[x]?)) then none
        else storesE fl lim ops st (i + 1) r ((i, x) :: seen) (acc.set x ob) K
      | none => none
    | _ => storesE fl lim ops st (i + 1) r seen acc K

/-- A region with guards in which nothing is written, and which comes to one truth: of it nothing else is kept. -/
def callsKnown (cf : Cfg) (o : Oper) : Bool :=
  match o.op with
  | .call c => match c.callee with
    | .builtin _ => true
    | .value (.func f) => (findSpec cf.S f).isSome
    | _ => false
  | _ => true
def truthOf (cf : Cfg) (l : List Oper) : Option (Oper × Tmp) :=
  match l.getLast? with
  | some o =>
    match o.dst, ty P o.type with
    | some d, .bool =>
      match o.op with
      | .pick _ _ _ | .assign _ => if l.any (fun o => o.guard.isSome) && l.all isStill && l.all (callsKnown cf) && o.guard.isNone then some (o, d) else none
      | _ => none
    | _, _ => none
  | none => none
def truthAt (st : St) (d : Tmp) : Option Bool :=
  match st.tmps.getD d .junk with
  | .bool b => some b
  | _ => none
def forget : List Oper → St → St
  | [], st => st
  | o :: r, st => forget r (st.set o.dst .junk)

def regionE (call : CallE R) (c : Ctx) (id : Nat) (ops : Array Oper) (draw : Bool) (st : St) (K : St → Option R) : Option R :=
  let l := ops.toList
  if draw && !drawOk ops then none else
  match (if cf.noJoin.contains (c.fn, id) then none else truthOf P cf l) with
  | some (_, d) => obind (stillE P cf false (if draw then some st.obs.length else none) ops l st fun x => truthAt x d) fun b => K (St.set (forget l st) (some d) (.bool b))
  | none =>
    if draw then let lim := st.obs.length; stillE P cf true (some lim) ops l st fun st' => storesE P c.fl lim ops st' 0 l [] st'.obs fun obs => K { st' with obs := obs }
    else opsE P cf call c ops l st K

def unrollE (body : St → (Ex → St → Option R) → Option R) : Nat → St → (Ex → St → Option R) → Option R
  | 0, _, _ => none
  | n + 1, st0, K => body st0 fun e st => match e with
    | .normal => unrollE body n (clean st0 st) K
    | e => K e (clean st0 st)

def codeE (call : CallE R) (c : Ctx) : Code → St → (Ex → St → Option R) → Option R
  | .skip, st, K => K .normal st
  | .label _, st, K => K .normal st
  | .seq a b, st, K => codeE call c a st fun e st => match e with
    | .normal => codeE call c b st K
    | e => K e st
  | .region id ops draw, st, K => regionE P cf call c id ops draw st fun st => K .normal st
  | .cond x a b, st, K => match ev st x with
    | .bool t => cnd t (codeE call c a st K) (codeE call c b st K)
    | _ => none
  | .block id a, st, K => codeE call c a st fun e st => match e with
    | .exit i => if i == id then K .normal st else K (.exit i) st
    | e => K e st
  | .exit id, st, K => K (.exit id) st
  | .loop a, st, K => match hasHnd cf.L (c.cx, c.fn, firstReg a) with
    | true => match fitHnd cf.L (c.cx, c.fn, firstReg a) c.base c.fl c.k st with
      | true => tryHnd cf.L (c.cx, c.fn, firstReg a) c.base c.fl c.k st K
      | false => codeE call c a st fun e st' => match e with
        | .normal => tryHnd cf.L (c.cx, c.fn, firstReg a) c.base c.fl c.k (clean st st') K
        | e => K e (clean st st')
    | false => unrollE (codeE call c a) cf.unroll st K
  | .scope a, st, K => codeE call c a st fun e st => match e with
    | .goto _ => none
    | e => K e st
  | .ret, st, K => K .ret st
  | _, _, _ => none

def resE (st : St) : List ResultVar → List A → (List A → Option R) → Option R
  | [], acc, K => K acc.reverse
  | .tmp t :: r, acc, K => resE st r (st.tmps.getD t .junk :: acc) K
  | .cell a t :: r, acc, K => match st.tmps.getD a .junk with
    | .ref o p => loadE P none st.obs t (.ref o p) fun x => resE st r (x :: acc) K
    | _ => none
def A.notTup : A → Bool | .tup _ => false | _ => true

def callE : Nat → CallE R
  | 0 => fun _ _ _ _ _ => none
  | k + 1 => fun c f args obs K =>
    match P.funcs[f]? with
    | none => none
    | some fn => match fn.body with
      | none => none
      | some body =>
        codeE P cf (callE k) { c with fn := f, base := obs.length, k := k } body { tmps := args ++ List.replicate (fn.ntmps - args.length) .junk, obs := obs } fun e st =>
          match e with
          | .normal | .ret => resE P st fn.results.toList [] fun as => match as with
            | [a] => K a st.obs
            | as => if as.all A.notTup then K (.tup as) st.obs else none
          | _ => none

/-! ### Loops by a function on their leaves -/
def loopsOf : Code → List Code
  | .seq a b => loopsOf a ++ loopsOf b
  | .cond _ a b => loopsOf a ++ loopsOf b
  | .block _ a => loopsOf a
  | .loop a => a :: loopsOf a
  | .scope a => loopsOf a
  | _ => []
def bodyOf (f : FuncId) : Code :=
  match P.funcs[f]? with
  | some fn => match fn.body with | some b => b | none => .skip
  | none => .skip
def resOf (f : FuncId) : List ResultVar :=
  match P.funcs[f]? with
  | some fn => fn.results.toList
  | none => []
def pickLoop (r : Nat) : List Code → Code
  | [] => .skip
  | a :: l => if firstReg a == r then a else pickLoop r l

/-- A loop: what is kept at its head, what behind it, and what it does, by rounds. -/
structure LP where
  cx : Nat
  fn : FuncId
  reg : Nat
  base : Nat
  fl : Nat
  depth : Nat
  head : SPat
  keep : Keep
  F : {R : Type} → Nat → List D → (Ex → St → Option R) → Option R
/-- One round. -/
def LP.round (l : LP) (n : Nat) (ls : List D) (K : Ex → St → Option R) : Option R :=
  codeE P cf (callE P cf l.depth) ⟨l.cx, l.fn, l.base, l.fl, l.depth⟩ (pickLoop l.reg (loopsOf (bodyOf P l.fn))) (l.head.inst ls) fun e st =>
    match e with
    | .normal => match l.head.look (clean (l.head.inst ls) st) with
      | some ls' => l.F n ls' K
      | none => none
    | e => K e (l.keep.run l.head.os.length st)
def LP.hnd (l : LP) (n : Nat) : (Nat × Nat × Nat) × Hnd :=
  ((l.cx, l.fn, l.reg), ⟨l.base, l.fl, l.depth, l.head.look, fun ls K => l.F n ls K⟩)

def mkArgs : List TypeId → List D → List A
  | t :: ts, d :: ds => mk P t d :: mkArgs ts ds
  | _, _ => []
def finish1 (obs : List Ob) (r : RK) (a : A) : Option D :=
  match r with
  | .dat t => if fits P obs t a && plainT P 20 t then dataOf obs 60 a else none
  | .own e => match a with
    | .nsl => some (.sl true [])
    | .own o => match obs[o]? with
      | some (.arr e' es nilable _ true) => if e == e' then some (.sl (band_ nilable (empty es)) es) else none
      | _ => none
    | _ => none
  | .ownN e => match a with
    | .nsl => some (.sl true [])
    | .own o => match obs[o]? with
      | some (.arr e' es true _ true) => if e == e' then some (.sl (empty es) es) else none
      | _ => none
    | _ => none
def finishL (obs : List Ob) : List RK → List A → Option (List D)
  | [], [] => some []
  | r :: rs, a :: as => match finish1 P obs r a, finishL obs rs as with | some d, some l => some (d :: l) | _, _ => none
  | _, _ => none
def finish (obs : List Ob) (rs : List RK) (a : A) : Option D :=
  match rs with
  | [r] => finish1 P obs r a
  | rs => match a with
    | .tup as => if rs.any isOwn && !((rs.filter isOwn).length == 1 && (as.filter (fun a => !a.still)).length ≤ 1) then none else
      match finishL P obs rs as with | some l => some (.st l) | none => none
    | _ => none
def runE (k : Nat) (f : FuncId) (ps : List TypeId) (rs : List RK) (ds : List D) : Option D :=
  callE (R := D) P cf k ⟨0, f, 0, 0, k⟩ f (mkArgs P ps ds) [] fun a obs => finish P obs rs a
def resList (rs : List RK) (a : A) : Option (List A) :=
  match rs with
  | [_] => some [a]
  | _ => match a with | .tup as => some as | _ => none
def elemT (t : TypeId) : TypeId := match ty P t with | .slice e => e | _ => 0
/-- The same of a function that changes the elements of its i-th argument (not nil): its results, and behind them the elements. -/
def runW (k : Nat) (f : FuncId) (ps : List TypeId) (rs : List RK) (i : Nat) (ds : List D) : Option D :=
  callE (R := D) P cf k ⟨0, f, 0, 0, k⟩ f ((mkArgs P ps ds).set i (.own 0)) [.arr (elemT P (ps.getD i 0)) (ds.getD i .bad).es false false true] fun a (obs : List Ob) =>
    match obs.head?, resList rs a with
    | some (Ob.arr _ es _ _ true), some as => match finishL P obs rs as with
      | some l => some (.st (l ++ [.sl false es]))
      | none => none
    | _, _ => none

end
end Go.Ev
