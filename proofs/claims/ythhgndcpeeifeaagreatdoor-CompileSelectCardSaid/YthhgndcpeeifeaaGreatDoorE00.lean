/- Part of the proof of CompileForCardSaid. -/
import Derived.Defers
set_option linter.unusedVariables false
set_option linter.unusedSimpArgs false
set_option linter.unusedSectionVars false
set_option linter.constructorNameAsVariable false
namespace Go.Ev
open Go

structure T8 (α : Type) where
  a : α
  b : α
  c : α
  d : α
  e : α
  f : α
  g : α
  h : α
inductive D8 where | a | b | c | d | e | f | g | h
  deriving DecidableEq

section
variable {α : Type}
noncomputable def T8.at (t : T8 α) (d : D8) : α := D8.rec (motive := fun _ => α) t.a t.b t.c t.d t.e t.f t.g t.h d
noncomputable def T8.put (d : D8) (x : α) (t : T8 α) : T8 α :=
  T8.rec (motive := fun _ => T8 α) (fun a b c d' e f g h => D8.rec (motive := fun _ => T8 α) ⟨x, b, c, d', e, f, g, h⟩ ⟨a, x, c, d', e, f, g, h⟩
    ⟨a, b, x, d', e, f, g, h⟩ ⟨a, b, c, x, e, f, g, h⟩ ⟨a, b, c, d', x, f, g, h⟩ ⟨a, b, c, d', e, x, g, h⟩ ⟨a, b, c, d', e, f, x, h⟩ ⟨a, b, c, d', e, f, g, x⟩ d) t
def T8.all (x : α) : T8 α := ⟨x, x, x, x, x, x, x, x⟩
/-- One of eight by a number below eight. -/
noncomputable def dig (n : Nat) (a b c d e f g h : α) : α :=
  Nat.rec (motive := fun _ => α) a (fun n _ => Nat.rec (motive := fun _ => α) b (fun n _ => Nat.rec (motive := fun _ => α) c (fun n _ => Nat.rec (motive := fun _ => α) d
    (fun n _ => Nat.rec (motive := fun _ => α) e (fun n _ => Nat.rec (motive := fun _ => α) f (fun n _ => Nat.rec (motive := fun _ => α) g (fun _ _ => h) n) n) n) n) n) n) n
end
noncomputable def dg (n : Nat) : D8 := dig n .a .b .c .d .e .f .g .h
noncomputable def T8.nat {α : Type} (n : Nat) (t : T8 α) : α := dig n t.a t.b t.c t.d t.e t.f t.g t.h
noncomputable def natF {α : Type} (n : Nat) (k : Nat → α) : α := Nat.rec (motive := fun _ => α) (k 0) (fun m _ => k (Nat.succ m)) n
noncomputable def cif {α : Type} (b : Bool) (x y : α) : α := Bool.rec (motive := fun _ => α) y x b

structure Id where
  d1 : D8
  d2 : D8
  d3 : D8
  d4 : D8
  d5 : D8
  deriving DecidableEq

inductive AV where
  | u
  | b (x : Bool)
  | i (k : IntKind) (n : Int)
  | s (n c : Nat)
  | p (b : Id) (o : Nat)
  | p0
  | sl (b : Id) (o n : Nat)
  | sl0
  | m (b : Id)
  | m0
  | f (fn : Fn) (first cap : List AV)
  | f0
  | if_ (t : TypeId) (v : AV)
  | if0
  | g (l : List AV)
  | t (l : List AV)
  | y (k : Nat)
  | sw (b : Id)

inductive CT where
  | r1 (t : T8 AV)
  | r2 (t : T8 (T8 AV))
  | r3 (t : T8 (T8 (T8 AV)))
  | r4 (t : T8 (T8 (T8 (T8 AV))))

inductive AObj where
  | no
  | c (own : Bool) (e : TypeId) (n : Nat) (t : CT)
  | m (es : List (AV × AV)) (clk : Nat)
  | bs (e : TypeId) (k : Nat)

abbrev HT := T8 (T8 (T8 (T8 (T8 AObj))))
abbrev Fr := T8 (T8 (T8 AV))
structure Hp where
  t : HT
  nx : Nat

/-- What hangs together: a row with all that is in it. -/
inductive DV where
  | v (x : AV)
  | g (l : List DV)
  | l (e : TypeId) (n : Nat) (l : List DV)

inductive Res where
  | ok (x : DV)
  | bad (why : Nat) (x : AV)

def u1 : T8 AV := T8.all .u
def u2 : T8 (T8 AV) := T8.all u1
def u3 : T8 (T8 (T8 AV)) := T8.all u2

noncomputable def CT.get (o : Nat) (t : CT) : AV :=
  CT.rec (motive := fun _ => AV) (fun t => t.nat o) (fun t => (t.nat (Nat.div o 8)).nat (Nat.mod o 8))
    (fun t => ((t.nat (Nat.div o 64)).nat (Nat.mod (Nat.div o 8) 8)).nat (Nat.mod o 8))
    (fun t => (((t.nat (Nat.div o 512)).nat (Nat.mod (Nat.div o 64) 8)).nat (Nat.mod (Nat.div o 8) 8)).nat (Nat.mod o 8)) t
noncomputable def put1 (o : Nat) (v : AV) (t : T8 AV) : T8 AV := t.put (dg (Nat.mod o 8)) v
noncomputable def put2 (o : Nat) (v : AV) (t : T8 (T8 AV)) : T8 (T8 AV) := t.put (dg (Nat.mod (Nat.div o 8) 8)) (put1 o v (t.nat (Nat.mod (Nat.div o 8) 8)))
noncomputable def put3 (o : Nat) (v : AV) (t : T8 (T8 (T8 AV))) : T8 (T8 (T8 AV)) :=
  t.put (dg (Nat.mod (Nat.div o 64) 8)) (put2 o v (t.nat (Nat.mod (Nat.div o 64) 8)))
noncomputable def put4 (o : Nat) (v : AV) (t : T8 (T8 (T8 (T8 AV)))) : T8 (T8 (T8 (T8 AV))) :=
  t.put (dg (Nat.mod (Nat.div o 512) 8)) (put3 o v (t.nat (Nat.mod (Nat.div o 512) 8)))
/-- A cell is set; its number is below the row's length. -/
noncomputable def CT.set (o : Nat) (v : AV) (t : CT) : CT :=
  CT.rec (motive := fun _ => CT) (fun t => .r1 (put1 o v t)) (fun t => .r2 (put2 o v t)) (fun t => .r3 (put3 o v t)) (fun t => .r4 (put4 o v t)) t
/-- A cell is set at whatever place below 4096. -/
noncomputable def CT.ext (o : Nat) (v : AV) (t : CT) : CT :=
  CT.rec (motive := fun _ => CT)
    (fun t => cif (Nat.ble o 7) (.r1 (put1 o v t)) (cif (Nat.ble o 63) (.r2 (put2 o v ⟨t, u1, u1, u1, u1, u1, u1, u1⟩)) (.r3 (put3 o v ⟨⟨t, u1, u1, u1, u1, u1, u1, u1⟩, u2, u2, u2, u2, u2, u2, u2⟩))))
    (fun t => cif (Nat.ble o 63) (.r2 (put2 o v t)) (.r3 (put3 o v ⟨t, u2, u2, u2, u2, u2, u2, u2⟩)))
    (fun t => cif (Nat.ble o 511) (.r3 (put3 o v t)) (.r4 (put4 o v ⟨t, u3, u3, u3, u3, u3, u3, u3⟩))) (fun t => .r4 (put4 o v t)) t
def CT.z : CT := .r1 u1
/-- A list is laid from a place on. -/
noncomputable def CT.lay (l : List AV) : Nat → CT → CT :=
  List.rec (motive := fun _ => Nat → CT → CT) (fun _ t => t) (fun v _ ih o t => ih (Nat.succ o) (t.ext o v)) l
noncomputable def CT.cells (n : Nat) : Nat → CT → List AV :=
  Nat.rec (motive := fun _ => Nat → CT → List AV) (fun _ _ => []) (fun _ ih o t => t.get o :: ih (Nat.succ o) t) n

noncomputable def hat (i : Id) (t : HT) : AObj := ((((t.at i.d1).at i.d2).at i.d3).at i.d4).at i.d5
noncomputable def hput5 (i : Id) (x : AObj) (t : T8 AObj) : T8 AObj := t.put i.d5 x
noncomputable def hput4 (i : Id) (x : AObj) (t : T8 (T8 AObj)) : T8 (T8 AObj) := t.put i.d4 (hput5 i x (t.at i.d4))
noncomputable def hput3 (i : Id) (x : AObj) (t : T8 (T8 (T8 AObj))) : T8 (T8 (T8 AObj)) := t.put i.d3 (hput4 i x (t.at i.d3))
noncomputable def hput2 (i : Id) (x : AObj) (t : T8 (T8 (T8 (T8 AObj)))) : T8 (T8 (T8 (T8 AObj))) := t.put i.d2 (hput3 i x (t.at i.d2))
noncomputable def hput (i : Id) (x : AObj) (t : HT) : HT := t.put i.d1 (hput2 i x (t.at i.d1))
noncomputable def idOf (n : Nat) : Id :=
  ⟨dg (Nat.mod (Nat.div n 4096) 8), dg (Nat.mod (Nat.div n 512) 8), dg (Nat.mod (Nat.div n 64) 8), dg (Nat.mod (Nat.div n 8) 8), dg (Nat.mod n 8)⟩
noncomputable def d8F {α : Type} (d : D8) (k : D8 → α) : α := D8.rec (motive := fun _ => α) (k .a) (k .b) (k .c) (k .d) (k .e) (k .f) (k .g) (k .h) d
noncomputable def idF {α : Type} (i : Id) (k : Id → α) : α :=
  Id.rec (motive := fun _ => α) (fun a b c d e => d8F a fun a => d8F b fun b => d8F c fun c => d8F d fun d => d8F e fun e => k ⟨a, b, c, d, e⟩) i

/-- The continuation of an operation. -/
abbrev K := AV → Hp → Res
noncomputable def Hp.new (x : AObj) (h : Hp) (k : Id → Hp → Res) : Res :=
  Hp.rec (motive := fun _ => Res) (fun t n => cif (Nat.ble 32768 n) (.bad 9 .u) (idF (idOf n) fun i => k i ⟨hput i x t, Nat.succ n⟩)) h

/-- What is called: a function, and a piece of code (loops, scopes), with less fuel. -/
inductive Ex where
  | normal
  | exit (id : Nat)
  | goto (l : Nat)
  | ret
structure Dfr where
  fn : AV
  args : List AV
abbrev KC := Ex → Fr → List Dfr → Hp → Res
/-- Where a piece of code stands: by itself, in a scope, in a loop. -/
inductive Md where
  | plain
  | scope (b : Code)
  | loop (b : Code)
structure Cl where
  call : FuncId → List AV → Hp → K → Res
  code : Md → Code → Fr → List Dfr → Hp → KC → Res

abbrev X := Cl → Fr → Hp → K → Res
abbrev O := Fr → AV

/-! operands -/
noncomputable def getN (n : Nat) : O := fun t => ((t.at (dg (Nat.div n 64))).at (dg (Nat.mod (Nat.div n 8) 8))).at (dg (Nat.mod n 8))
noncomputable def T8.mod {α : Type} (d : D8) (z : α → α) (t : T8 α) : T8 α := t.put d (z (t.at d))
noncomputable def putN (n : Nat) (v : AV) : Fr → Fr :=
  fun t => t.mod (dg (Nat.div n 64)) fun t => t.mod (dg (Nat.mod (Nat.div n 8) 8)) fun t => t.mod (dg (Nat.mod n 8)) fun _ => v

def encB (l : List UInt8) : Nat := l.foldr (fun b c => b.toNat + 256 * c) 0
noncomputable def strV (s : ByteArray) : AV := natF (encB s.data.toList) fun c => natF s.data.toList.length fun n => .s n c
/-- The block of a package-level variable. -/
noncomputable def gid (g : Nat) : Id := idOf g
/-- A value that stands in the code, of one cell. -/
noncomputable def trS : Value → AV
  | .bool b => .b b
  | .int k n => .i k n
  | .string s => strV s
  | .pointer none => .p0
  | .slice none 0 0 => .sl0
  | .map none => .m0
  | .func fn first captured => cif (first.size == 0 && captured.size == 0) (.f fn [] []) .u
  | .nilFunc => .f0
  | .nilIface => .if0
  | _ => .u
end Go.Ev
namespace Go.Ev
open Go

def bad (n : Nat) : Res := .bad n .u

/-! what a value is: one eliminator each -/
section
variable {α : Type}
noncomputable def avE (z : α) (eb : Bool → α) (ei : IntKind → Int → α) (es : Nat → Nat → α) (ep : Id → Nat → α) (esl : Id → Nat → Nat → α) (esl0 : α) (eg : List AV → α) (et : List AV → α) (v : AV) : α :=
  AV.rec (motive_1 := fun _ => α) (motive_2 := fun _ => Unit) z eb ei es ep z esl esl0 (fun _ => z) z (fun _ _ _ _ _ => z) z (fun _ _ _ => z) z (fun l _ => eg l) (fun l _ => et l) (fun _ => z) (fun _ => z) () (fun _ _ _ _ => ()) v
end
noncomputable def asI (v : AV) (k : IntKind → Int → Res) : Res := avE (.bad 101 v) (fun _ => bad 101) k (fun _ _ => bad 101) (fun _ _ => bad 101) (fun _ _ _ => bad 101) (bad 101) (fun _ => bad 101) (fun _ => bad 101) v
noncomputable def asB (v : AV) (k : Bool → Res) : Res := avE (bad 102) k (fun _ _ => bad 102) (fun _ _ => bad 102) (fun _ _ => bad 102) (fun _ _ _ => bad 102) (bad 102) (fun _ => bad 102) (fun _ => bad 102) v
noncomputable def asS (v : AV) (k : Nat → Nat → Res) : Res := avE (bad 103) (fun _ => bad 103) (fun _ _ => bad 103) k (fun _ _ => bad 103) (fun _ _ _ => bad 103) (bad 103) (fun _ => bad 103) (fun _ => bad 103) v
noncomputable def asP (v : AV) (k : Id → Nat → Res) : Res := avE (bad 104) (fun _ => bad 104) (fun _ _ => bad 104) (fun _ _ => bad 104) k (fun _ _ _ => bad 104) (bad 104) (fun _ => bad 104) (fun _ => bad 104) v
noncomputable def asSl (v : AV) (z : Res) (k : Id → Nat → Nat → Res) : Res := avE (bad 105) (fun _ => bad 105) (fun _ _ => bad 105) (fun _ _ => bad 105) (fun _ _ => bad 105) k z (fun _ => bad 105) (fun _ => bad 105) v
noncomputable def asG (v : AV) (k : List AV → Res) : Res := avE (bad 106) (fun _ => bad 106) (fun _ _ => bad 106) (fun _ _ => bad 106) (fun _ _ => bad 106) (fun _ _ _ => bad 106) (bad 106) k (fun _ => bad 106) v
noncomputable def asT (v : AV) (k : List AV → Res) : Res := avE (bad 107) (fun _ => bad 107) (fun _ _ => bad 107) (fun _ _ => bad 107) (fun _ _ => bad 107) (fun _ _ _ => bad 107) (bad 107) (fun _ => bad 107) k v
noncomputable def cellsOf (v : AV) : List AV := avE [v] (fun _ => [v]) (fun _ _ => [v]) (fun _ _ => [v]) (fun _ _ => [v]) (fun _ _ _ => [v]) [v] (fun l => l) (fun _ => [v]) v
noncomputable def asC (o : AObj) (k : Bool → TypeId → Nat → CT → Res) : Res := AObj.rec (motive := fun _ => Res) (bad 11) k (fun _ _ => bad 11) (fun _ _ => bad 11) o
noncomputable def cellsAt (b : Id) (h : Hp) (k : Bool → TypeId → Nat → CT → Res) : Res := asC (hat b h.t) k

/-! numbers -/
noncomputable def intF {α : Type} (n : Int) (k : Int → α) : α :=
  Int.rec (motive := fun _ => α) (fun n => natF n fun n => k (.ofNat n)) (fun n => natF n fun n => k (.negSucc n)) n
def lim : IntKind → Nat
  | .i8 => 128 | .i16 => 32768 | .i32 => 2147483648 | .i64 => 9223372036854775808
  | .u8 => 256 | .u16 => 65536 | .u32 => 4294967296 | .u64 => 18446744073709551616
/-- A number, brought into its kind (lm: what is below stays). -/
noncomputable def wrF (kd : IntKind) (lm : Nat) (n : Int) (k : AV → Res) : Res :=
  Int.rec (motive := fun _ => Res) (fun m => cif (Nat.ble lm m) (intF (kd.wrap (.ofNat m)) fun n => k (.i kd n)) (natF m fun m => k (.i kd (.ofNat m))))
    (fun m => intF (kd.wrap (.negSucc m)) fun n => k (.i kd n)) n
section
variable {α : Type}
noncomputable def int2 (pp pn np nn : Nat → Nat → α) (a b : Int) : α :=
  Int.rec (motive := fun _ => α) (fun a => Int.rec (motive := fun _ => α) (fun b => pp a b) (fun b => pn a b) b) (fun a => Int.rec (motive := fun _ => α) (fun b => np a b) (fun b => nn a b) b) a
end
noncomputable def ile (a b : Int) : Bool := int2 (fun a b => Nat.ble a b) (fun _ _ => false) (fun _ _ => true) (fun a b => Nat.ble b a) a b
noncomputable def ieq (a b : Int) : Bool := int2 (fun a b => Nat.beq a b) (fun _ _ => false) (fun _ _ => false) (fun a b => Nat.beq a b) a b
noncomputable def iadd (a b : Int) : Int := int2 (fun a b => .ofNat (Nat.add a b)) (fun a _ => Int.add (.ofNat a) b) (fun _ _ => Int.add a b) (fun _ _ => Int.add a b) a b
noncomputable def isub (a b : Int) : Int := int2 (fun a b => cif (Nat.ble b a) (.ofNat (Nat.sub a b)) (.negSucc (Nat.pred (Nat.sub b a)))) (fun _ _ => Int.sub a b) (fun _ _ => Int.sub a b) (fun _ _ => Int.sub a b) a b
noncomputable def nt (b : Bool) : Bool := cif b false true
noncomputable def an (a b : Bool) : Bool := cif a b false
noncomputable def bF (b : Bool) (k : AV → Res) : Res := cif b (k (.b true)) (k (.b false))

/-! equality of values of one cell, and of rows of such -/
noncomputable def d8n (d : D8) : Nat := D8.rec (motive := fun _ => Nat) 0 1 2 3 4 5 6 7 d
noncomputable def deqD (a b : D8) : Bool := Nat.beq (d8n a) (d8n b)
noncomputable def deqI (a b : Id) : Bool := an (deqD a.d5 b.d5) (an (deqD a.d4 b.d4) (an (deqD a.d3 b.d3) (an (deqD a.d2 b.d2) (deqD a.d1 b.d1))))
/-- Texts with unknown parts, compared: the same code, or told apart by how they begin. -/
noncomputable def isSy (b : Nat) : Bool := an (Nat.ble 1 b) (Nat.ble b 2)
noncomputable def isDg (b : Nat) : Bool := an (Nat.ble 48 b) (Nat.ble b 57)
noncomputable def yLen (y : Nat) : Nat := Nat.mod (Nat.div y 2) 65536
noncomputable def yCod (y : Nat) : Nat := Nat.div y 131072
noncomputable def yOdd (y : Nat) : Bool := Nat.beq (Nat.mod y 2) 1
noncomputable def begSY (n b m d : Nat) : Option Bool :=
  cond (Nat.beq n 0) (cond (Nat.beq m 0) none (some false)) (cond (Nat.beq m 0) (some false) (cond (isSy d) (cond (isDg b) none (some false)) (cond (Nat.beq b d) none (some false))))
noncomputable def begYY (n b m d : Nat) : Option Bool :=
  cond (Nat.beq n 0) none (cond (Nat.beq m 0) none (cond (isSy b) (cond (isSy d) none (cond (isDg d) none (some false))) (cond (isSy d) (cond (isDg b) none (some false)) (cond (Nat.beq b d) none (some false)))))
noncomputable def eqY (x y : AV) : Option Bool := match x, y with
  | .y a, .y b => cond (an (yOdd a) (yOdd b)) (cond (Nat.beq a b) (some true) (begYY (yLen a) (Nat.mod (yCod a) 256) (yLen b) (Nat.mod (yCod b) 256))) none
  | .s n c, .y b => cond (yOdd b) (begSY n (Nat.mod c 256) (yLen b) (Nat.mod (yCod b) 256)) none
  | .y a, .s n c => cond (yOdd a) (begSY n (Nat.mod c 256) (yLen a) (Nat.mod (yCod a) 256)) none
  | _, _ => none
noncomputable def eq1 : AV → AV → Option Bool
  | .b x, .b y => some (x == y)
  | .i _ x, .i _ y => some (ieq x y)
  | .s n c, .s m d => some (an (Nat.beq n m) (Nat.beq c d))
  | .p0, .p0 => some true
  | .p0, .p _ _ => some false
  | .p _ _, .p0 => some false
  | .p b o, .p c q => some (an (deqI b c) (Nat.beq o q))
  | .sl0, .sl0 => some true
  | .sl0, .sl _ _ _ => some false
  | .sl _ _ _, .sl0 => some false
  | .m0, .m0 => some true
  | .m0, .m _ => some false
  | .m _, .m0 => some false
  | .f0, .f0 => some true
  | .f0, .f _ _ _ => some false
  | .f _ _ _, .f0 => some false
  | .if0, .if0 => some true
  | .if0, .if_ _ _ => some false
  | .if_ _ _, .if0 => some false
  | .y a, .y b => cond (yOdd a) (eqY (.y a) (.y b)) (cond (Nat.beq a b) (some true) none)
  | .y a, w => eqY (.y a) w
  | w, .y a => eqY w (.y a)
  | _, _ => none
noncomputable def eqL : List AV → List AV → Option Bool
  | [], [] => some true
  | a :: x, b :: y => match eq1 a b with
    | some true => eqL x y
    | some false => some false
    | none => none
  | _, _ => none
noncomputable def eqV : AV → AV → Option Bool
  | .g x, .g y => eqL x y
  | x, y => eq1 x y
noncomputable def obF (o : Option Bool) (k : Bool → Res) : Res :=
  match o with
  | some true => k true
  | some false => k false
  | none => bad 1

/-! strings: (length, code) -/
noncomputable def sF (n c : Nat) (k : AV → Res) : Res := natF n fun n => natF c fun c => k (.s n c)
noncomputable def sByte (c i : Nat) : Nat := Nat.mod (Nat.shiftRight c (Nat.mul 8 i)) 256
noncomputable def sSub (c l h : Nat) : Nat := Nat.mod (Nat.shiftRight c (Nat.mul 8 l)) (Nat.pow 2 (Nat.mul 8 (Nat.sub h l)))

noncomputable def isSc (v : AV) : Bool :=
  AV.rec (motive_1 := fun _ => Bool) (motive_2 := fun _ => Unit) false (fun _ => true) (fun _ _ => true) (fun _ _ => true) (fun _ _ => true) true (fun _ _ _ => true) true (fun _ => true) true (fun _ _ _ _ _ => true) true (fun _ _ _ => true) true (fun _ _ => false) (fun _ _ => false) (fun _ => true) (fun _ => true) () (fun _ _ _ _ => ()) v
noncomputable def nU (v : AV) : Bool :=
  AV.rec (motive_1 := fun _ => Bool) (motive_2 := fun _ => Unit) false (fun _ => true) (fun _ _ => true) (fun _ _ => true) (fun _ _ => true) true (fun _ _ _ => true) true (fun _ => true) true (fun _ _ _ _ _ => true) true (fun _ _ _ => true) true (fun _ _ => true) (fun _ _ => true) (fun _ => true) (fun _ => true) () (fun _ _ _ _ => ()) v
noncomputable def allSc (l : List AV) : Bool := List.rec (motive := fun _ => Bool) true (fun v _ ih => an (isSc v) ih) l
noncomputable def lenL (l : List AV) : Nat := List.rec (motive := fun _ => Nat) 0 (fun _ _ ih => Nat.succ ih) l
/-! operations -/
noncomputable def xMv (x : O) : X := fun _ F h k => k (x F) h
noncomputable def xBad (n : Nat) : X := fun _ _ _ _ => bad n
noncomputable def kn (k : IntKind) : Nat := IntKind.rec (motive := fun _ => Nat) 0 1 2 3 4 5 6 7 k
/-- Two numbers of one kind. -/
noncomputable def asII (x y : AV) (k : IntKind → Int → Int → Res) : Res := asI x fun k1 a => asI y fun k2 b => cif (Nat.beq (kn k1) (kn k2)) (k k1 a b) (bad 6)
noncomputable def xI2 (f : Int → Int → Int) (x y : O) : X := fun _ F h k => asII (x F) (y F) fun kd a b => wrF kd (lim kd) (f a b) fun v => k v h
noncomputable def xIc (f : Int → Int → Bool) (x y : O) : X := fun _ F h k => asII (x F) (y F) fun _ a b => bF (f a b) fun v => k v h
noncomputable def intE (v : AV) (k : IntKind → Int → Res) (z : Res) : Res := avE z (fun _ => z) k (fun _ _ => z) (fun _ _ => z) (fun _ _ _ => z) z (fun _ => z) (fun _ => z) v
/-- Two numbers, equal or not; an unknown one is what it is. -/
noncomputable def xIe (neg : Bool) (x y : O) : X := fun _ F h k =>
  intE (x F) (fun k1 a => asI (y F) fun k2 b => cif (Nat.beq (kn k1) (kn k2)) (bF (cif neg (nt (ieq a b)) (ieq a b)) fun v => k v h) (bad 6))
    (match x F, y F with
      | .y a, .y b => cif (an (Nat.beq a b) (nt (yOdd a))) (bF (nt neg) fun v => k v h) (.bad 160 (.t [.y a, .y b]))
      | v, w => .bad 161 (.t [v, w]))
/-- Between what an unknown number is (its code is even): the numbers themselves, and places in a text. -/
noncomputable def bndY {α : Type} (y : Nat) (k : Nat → Nat → α) (z : α) : α :=
  cif (Nat.beq (Nat.mod y 2) 0) (cif (Nat.ble y 2) (k 0 2147483647) (cif (Nat.ble 16 y)
    (natF (Nat.sub (Nat.div y 2) 8) fun q => natF (Nat.add (Nat.mod q 4) (Nat.mod (Nat.div q 4) 4)) fun m => k (Nat.add (Nat.div q 16) m) (Nat.add (Nat.div q 16) (Nat.mul 10 m))) z)) z
noncomputable def leY (y : Nat) (b : Int) : Option Bool := bndY y (fun lo hi => cif (ile (.ofNat hi) b) (some true) (cif (ile (.ofNat lo) b) none (some false))) none
noncomputable def geY (a : Int) (y : Nat) : Option Bool := bndY y (fun lo hi => cif (ile a (.ofNat lo)) (some true) (cif (ile a (.ofNat hi)) none (some false))) none
noncomputable def leO (v w : AV) : Option Bool := match v, w with
  | .y a, .i kd b => cond (Nat.beq (kn kd) 3) (leY a b) none
  | .i kd a, .y b => cond (Nat.beq (kn kd) 3) (geY a b) none
  | _, _ => none
noncomputable def obX1 (x y : AV) (o : Option Bool) (k : Bool → Res) : Res := match o with
  | some b => k b
  | none => .bad 162 (.t [x, y])
/-- Is the one at most the other (sw: the other way round; neg: not so)? -/
noncomputable def xCmp (sw neg : Bool) (x y : O) : X := fun _ F h k =>
  let z := obX1 (x F) (y F) (cif sw (leO (y F) (x F)) (leO (x F) (y F))) fun b => bF (cif neg (nt b) b) fun v => k v h
  intE (x F) (fun k1 a => intE (y F) (fun k2 b => cif (Nat.beq (kn k1) (kn k2)) (bF (cif neg (nt (cif sw (ile b a) (ile a b))) (cif sw (ile b a) (ile a b))) fun v => k v h) (bad 6)) z) z
noncomputable def xDiv (x y : O) : X := fun _ F h k => asII (x F) (y F) fun kd a b => cif (ieq b 0) (bad 2) (wrF kd (lim kd) (Int.tdiv a b) fun v => k v h)
noncomputable def xRem (x y : O) : X := fun _ F h k => asII (x F) (y F) fun kd a b => cif (ieq b 0) (bad 2) (intF (Int.tmod a b) fun n => k (.i kd n) h)
/-- And, or of numbers that are not below 0. -/
noncomputable def xNN (f : Nat → Nat → Nat) (x y : O) : X := fun _ F h k => asII (x F) (y F) fun kd a b =>
  int2 (fun a b => cif (Nat.ble (lim kd) a) (bad 3) (cif (Nat.ble (lim kd) b) (bad 3) (natF (f a b) fun n => k (.i kd (.ofNat n)) h))) (fun _ _ => bad 3) (fun _ _ => bad 3) (fun _ _ => bad 3) a b
noncomputable def xShl (x y : O) : X := fun _ F h k => asI (x F) fun kd a => asI (y F) fun _ b =>
  int2 (fun m b => cif (Nat.ble b kd.bits) (wrF kd (lim kd) (.ofNat (Nat.mul m (Nat.pow 2 b))) fun v => k v h) (bad 3)) (fun _ _ => bad 3) (fun _ _ => bad 3) (fun _ _ => bad 3) a b
noncomputable def xShr (x y : O) : X := fun _ F h k => asI (x F) fun kd a => asI (y F) fun _ b =>
  int2 (fun m b => cif (Nat.ble b kd.bits) (natF (Nat.div m (Nat.pow 2 b)) fun n => k (.i kd (.ofNat n)) h) (bad 3)) (fun _ _ => bad 3) (fun _ _ => bad 3) (fun _ _ => bad 3) a b
noncomputable def xCat (x y : O) : X := fun _ F h k => asS (x F) fun n c => asS (y F) fun m d => cif (Nat.ble 1000000000 (Nat.add n m)) (bad 7) <| sF (Nat.add n m) (Nat.add c (Nat.mul d (Nat.pow 2 (Nat.mul 8 n)))) fun v => k v h
noncomputable def strE (v : AV) (k : Nat → Nat → Res) (z : Res) : Res := avE z (fun _ => z) (fun _ _ => z) k (fun _ _ => z) (fun _ _ _ => z) z (fun _ => z) (fun _ => z) v
noncomputable def obX0 (x y : AV) (o : Option Bool) (k : Bool → Res) : Res := match o with
  | some b => k b
  | none => .bad 152 (.t [x, y])
noncomputable def xSeq (neg : Bool) (x y : O) : X := fun _ F h k =>
  strE (x F) (fun n c => strE (y F) (fun m d => bF (cif neg (nt (an (Nat.beq n m) (Nat.beq c d))) (an (Nat.beq n m) (Nat.beq c d))) fun v => k v h) (obX0 (x F) (y F) (eqY (x F) (y F)) fun b => bF (cif neg (nt b) b) fun v => k v h)) (obX0 (x F) (y F) (eqY (x F) (y F)) fun b => bF (cif neg (nt b) b) fun v => k v h)
noncomputable def obX (x y : AV) (o : Option Bool) (k : Bool → Res) : Res := match o with
  | some b => k b
  | none => .bad 151 (.t [x, y])
noncomputable def xVeq (neg : Bool) (x y : O) : X := fun _ F h k => obX (x F) (y F) (eqV (x F) (y F)) fun b => bF (cif neg (nt b) b) fun v => k v h
noncomputable def xLd1 (a : O) : X := fun _ F h k => asP (a F) fun b o => cellsAt b h fun _ _ n t => cif (Nat.ble n o) (bad 12) (k (t.get o) h)
noncomputable def xLdN (m : Nat) (a : O) : X := fun _ F h k => asP (a F) fun b o => cellsAt b h fun _ _ n t => cif (Nat.ble (Nat.add o m) n) (k (.g (t.cells m o)) h) (bad 12)
noncomputable def setL (l : List AV) : Nat → CT → CT :=
  List.rec (motive := fun _ => Nat → CT → CT) (fun _ t => t) (fun v _ ih o t => ih (Nat.succ o) (t.set o v)) l
noncomputable def xSt1 (a x : O) : X := fun _ F h k => asP (a F) fun b o => cellsAt b h fun own e n t => cif (an own (an (isSc (x F)) (nt (Nat.ble n o)))) (k .u ⟨hput b (.c own e n (t.set o (x F))) h.t, h.nx⟩) (bad 13)
noncomputable def xStN (m : Nat) (a x : O) : X := fun _ F h k => asP (a F) fun b o => cellsAt b h fun own e n t =>
  cif (an own (an (allSc (cellsOf (x F))) (Nat.ble (Nat.add o m) n))) (natF (lenL (cellsOf (x F))) fun q => cif (Nat.beq q m) (k .u ⟨hput b (.c own e n (setL (cellsOf (x F)) o t)) h.t, h.nx⟩) (bad 13)) (bad 13)
noncomputable def xFa (off : Nat) (a : O) : X := fun _ F h k => asP (a F) fun b o => natF (Nat.add o off) fun o => k (.p b o) h
noncomputable def gL {α : Type} (l : List AV) (n : Nat) (k : AV → α) (z : α) : α :=
  List.rec (motive := fun _ => Nat → α) (fun _ => z) (fun v _ ih n => Nat.rec (motive := fun _ => α) (k v) (fun n _ => ih n) n) l n
noncomputable def takeL (l : List AV) : Nat → List AV :=
  List.rec (motive := fun _ => Nat → List AV) (fun _ => []) (fun v _ ih n => Nat.rec (motive := fun _ => List AV) [] (fun n _ => v :: ih n) n) l
noncomputable def dropL (n : Nat) : List AV → List AV :=
  Nat.rec (motive := fun _ => List AV → List AV) (fun l => l) (fun _ ih l => List.rec (motive := fun _ => List AV) [] (fun _ r _ => ih r) l) n
noncomputable def partL (ag : Bool) (sz : Nat) (l : List AV) (off : Nat) (k : AV → Res) : Res :=
  cif ag (k (.g (takeL (dropL off l) sz))) (gL l off k (bad 14))
noncomputable def xFd (ag : Bool) (sz off : Nat) (x : O) : X := fun _ F h k => asG (x F) fun l => partL ag sz l off fun v => k v h
noncomputable def inI (i : AV) (n : Nat) (k : Nat → Res) : Res := asI i fun _ i => Int.rec (motive := fun _ => Res) (fun i => cif (Nat.ble n i) (bad 16) (k i)) (fun _ => bad 16) i
noncomputable def xIaS (sz : Nat) (x i : O) : X := fun _ F h k => asSl (x F) (bad 18) fun b o n => inI (i F) n fun i => natF (Nat.add o (Nat.mul i sz)) fun o => k (.p b o) h
noncomputable def xIaA (len sz : Nat) (x i : O) : X := fun _ F h k => asP (x F) fun b o => inI (i F) len fun i => natF (Nat.add o (Nat.mul i sz)) fun o => k (.p b o) h
noncomputable def xIxS (x i : O) : X := fun _ F h k => asS (x F) fun n c => inI (i F) n fun i => natF (sByte c i) fun m => k (.i .u8 (.ofNat m)) h
noncomputable def xIxA (len : Nat) (ag : Bool) (sz : Nat) (x i : O) : X := fun _ F h k => asG (x F) fun l => inI (i F) len fun i => partL ag sz l (Nat.mul i sz) fun v => k v h
noncomputable def loB (lo : Option O) (F : Fr) (hi : Nat) (k : Nat → Res) : Res :=
  match lo with
  | none => k 0
  | some o => inI (o F) (Nat.succ hi) k
noncomputable def hiB (hi : Option O) (F : Fr) (d n : Nat) (k : Nat → Res) : Res :=
  match hi with
  | none => k d
  | some o => inI (o F) (Nat.succ n) k
noncomputable def xSlS (x : O) (lo hi : Option O) : X := fun _ F h k =>
  asS (x F) fun n c => hiB hi F n n fun hi => loB lo F hi fun lo => sF (Nat.sub hi lo) (sSub c lo hi) fun v => k v h
noncomputable def xSlL (e sz : Nat) (x : O) (lo hi : Option O) : X := fun _ F h k =>
  asSl (x F) (hiB hi F 0 0 fun hi => loB lo F hi fun _ => k .sl0 h)
    fun b o n => cellsAt b h fun _ e1 m _ => cif (Nat.beq e e1) (hiB hi F n (Nat.div (Nat.sub m o) sz) fun hi => loB lo F hi fun lo =>
      natF (Nat.add o (Nat.mul lo sz)) fun o => natF (Nat.sub hi lo) fun n => k (.sl b o n) h) (bad 53)
noncomputable def newC (e : TypeId) (l : List AV) (h : Hp) (k : Id → Hp → Res) : Res := natF (lenL l) fun n => cif (Nat.ble n 4096) (h.new (.c true e n (CT.lay l 0 CT.z)) k) (bad 8)
noncomputable def xAl (e : TypeId) (l : List AV) : X := fun _ _ h k => newC e l h fun b h => k (.p b 0) h
noncomputable def xBox (e : TypeId) (x : O) : X := fun _ F h k => cif (nU (x F)) (newC e (cellsOf (x F)) h fun b h => k (.p b 0) h) (bad 18)
/-- The cells of a list are laid over another one's from a place on. -/
noncomputable def overL (v : List AV) : List AV → List AV :=
  List.rec (motive := fun _ => List AV → List AV) (fun l => l) (fun x _ ih l => List.rec (motive := fun _ => List AV) [] (fun _ r _ => x :: ih r) l) v
noncomputable def fillL (v : List AV) (off : Nat) : List AV → List AV :=
  Nat.rec (motive := fun _ => List AV → List AV) (overL v) (fun _ ih l => List.rec (motive := fun _ => List AV) [] (fun a r _ => a :: ih r) l) off
structure Pt where
  off : Nat
  sz : Nat
  o : O
/-- Parts laid into a row: each with its place and its size. -/
noncomputable def fillAll (F : Fr) (ps : List Pt) : List AV → (List AV → Res) → Res :=
  List.rec (motive := fun _ => List AV → (List AV → Res) → Res) (fun l k => k l)
    (fun p _ ih l k => Pt.rec (motive := fun _ => Res) (fun off sz x => natF (lenL (cellsOf (x F))) fun n => cif (an (nU (x F)) (an (Nat.beq n sz) (Nat.ble (Nat.add off n) (lenL l)))) (ih (fillL (cellsOf (x F)) off l) k) (bad 17)) p) ps
noncomputable def xBld (z : List AV) (ps : List Pt) : X := fun _ F h k => fillAll F ps z fun l => k (.g l) h
noncomputable def appL (l r : List AV) : List AV := List.rec (motive := fun _ => List AV) r (fun x _ ih => x :: ih) l
noncomputable def repL (n : Nat) (l : List AV) : List AV := Nat.rec (motive := fun _ => List AV) [] (fun _ ih => appL l ih) n
noncomputable def mapO (l : List O) (F : Fr) : List AV := List.rec (motive := fun _ => List AV) [] (fun x _ ih => x F :: ih) l
noncomputable def xBldS (e : TypeId) (len : Nat) (z : List AV) (ps : List Pt) : X := fun _ F h k => fillAll F ps (repL len z) fun l => newC e l h fun b h => k (.sl b 0 len) h
noncomputable def xPick (c a b : O) : X := fun _ F h k => asB (c F) fun x => cif x (k (a F) h) (k (b F) h)
/-- A pointer, nil or not. -/
noncomputable def ptrE (v : AV) (k : Id → Nat → Res) (n z : Res) : Res :=
  AV.rec (motive_1 := fun _ => Res) (motive_2 := fun _ => Unit) z (fun _ => z) (fun _ _ => z) (fun _ _ => z) (fun b o => k b o) n (fun _ _ _ => z) z (fun _ => z) z (fun _ _ _ _ _ => z) z (fun _ _ _ => z) z (fun _ _ => z) (fun _ _ => z) (fun _ => z) (fun _ => z) () (fun _ _ _ _ => ()) v
/-- Two pointers, the same or not (nb: is a row of such none of bytes?). -/
noncomputable def xPq (nb : TypeId → Bool) (neg : Bool) (x y : O) : X := fun _ F h k =>
  ptrE (x F) (fun b o => ptrE (y F) (fun c q => cif (deqI b c) (bF (cif neg (nt (Nat.beq o q)) (Nat.beq o q)) fun v => k v h)
      (cellsAt b h fun own e n _ => cellsAt c h fun own2 _ n2 _ => cif (an own (an own2 (an (Nat.ble o n) (an (Nat.ble 1 n2) (nb e))))) (bF neg fun v => k v h) (bad 158)))
      (bF neg fun v => k v h) (bad 158))
    (ptrE (y F) (fun _ _ => bF neg fun v => k v h) (bF (nt neg) fun v => k v h) (bad 158)) (bad 158)
noncomputable def xNil (x : O) : X := fun _ F h k => asP (x F) fun b o => k (.p b o) h
noncomputable def xNot (x : O) : X := fun _ F h k => asB (x F) fun b => bF (nt b) fun v => k v h
noncomputable def xNeg (x : O) : X := fun _ F h k => asI (x F) fun kd n => natF (lim kd) fun lm => wrF kd lm (Int.sub 0 n) fun v => k v h
noncomputable def xCvI (kd : IntKind) (lm : Nat) (x : O) : X := fun _ F h k => asI (x F) fun _ n => wrF kd lm n fun v => k v h
noncomputable def codeOf (l : List AV) : (Nat → Res) → Res :=
  List.rec (motive := fun _ => (Nat → Res) → Res) (fun k => k 0)
    (fun v _ ih k => asI v fun kd n => Int.rec (motive := fun _ => Res) (fun n => cif (an (Nat.beq (kn kd) 4) (Nat.ble n 255)) (ih fun c => natF (Nat.add n (Nat.mul 256 c)) k) (bad 27)) (fun _ => bad 27) n) l
noncomputable def xCvBS (x : O) : X := fun _ F h k =>
  asSl (x F) (k (.s 0 0) h) fun b o n => cellsAt b h fun _ _ m t => cif (Nat.ble (Nat.add o n) m) (codeOf (t.cells n o) fun c => k (.s n c) h) (bad 28)
noncomputable def bytesOf (n : Nat) : Nat → List AV :=
  Nat.rec (motive := fun _ => Nat → List AV) (fun _ => []) (fun _ ih c => .i .u8 (.ofNat (Nat.mod c 256)) :: ih (Nat.div c 256)) n
noncomputable def xCvSB (e : TypeId) (x : O) : X := fun _ F h k => asS (x F) fun n c => newC e (bytesOf n c) h fun b h => k (.sl b 0 n) h
noncomputable def xMkS (e by_ : Nat) (z : List AV) (l c : O) : X := fun _ F h k =>
  inI (c F) 100000 fun c => inI (l F) (Nat.succ c) fun l => cif (Nat.ble (Nat.mul by_ c) 281474976710656) (newC e (repL c z) h fun b h => natF l fun l => k (.sl b 0 l) h) (bad 19)
noncomputable def xMkM : X := fun _ _ h k => h.new (.m [] 0) fun b h => k (.m b) h
noncomputable def xMkF (fn : Fn) (a b : List O) : X := fun _ F h k => k (.f fn (mapO a F) (mapO b F)) h
noncomputable def xMkI (t : TypeId) (x : O) : X := fun _ F h k => k (.if_ t (x F)) h
noncomputable def xExt (x : O) (i : Nat) : X := fun _ F h k => asT (x F) fun l => gL l i (fun v => k v h) (bad 30)
/-- How often a byte is in a rope. -/
noncomputable def cntF (b n : Nat) : Nat → Nat :=
  Nat.rec (motive := fun _ => Nat → Nat) (fun _ => 0) (fun _ ih c => cif (Nat.beq (Nat.mod c 256) b) (Nat.succ (ih (Nat.div c 256))) (ih (Nat.div c 256))) n
/-- A place in a text: a number and how often the figures of each unknown. -/
noncomputable def posF (p x y : Nat) (k : AV → Res) : Res :=
  cif (an (Nat.beq x 0) (Nat.beq y 0)) (natF p fun p => k (.i .i64 (.ofNat p))) (cif (an (Nat.ble x 3) (Nat.ble y 3)) (natF (Nat.mul 2 (Nat.add 8 (Nat.add (Nat.mul 4 (Nat.add (Nat.mul 4 p) x)) y))) fun q => k (.y q)) (bad 163))
noncomputable def xLenS (x : O) : X := fun _ F h k => strE (x F) (fun n _ => k (.i .i64 (.ofNat n)) h) (match x F with
  | .y y => cif (yOdd y) (natF (yLen y) fun n => natF (yCod y) fun c => natF (cntF 1 n c) fun p => natF (cntF 2 n c) fun q => posF (Nat.sub n (Nat.add p q)) p q fun v => k v h) (bad 103)
  | _ => bad 103)
/-- A text as a text of another name. -/
noncomputable def xCvS (x : O) : X := fun _ F h k => strE (x F) (fun n c => k (.s n c) h) (match x F with
  | .y y => cif (yOdd y) (k (.y y) h) (bad 103)
  | _ => bad 103)
noncomputable def xLenL (x : O) : X := fun _ F h k => asSl (x F) (k (.i .i64 (.ofNat 0)) h) fun _ _ n => k (.i .i64 (.ofNat n)) h
noncomputable def xLenM (x : O) : X := fun _ F h k =>
  match x F with
  | .m0 => k (.i .i64 (.ofNat 0)) h
  | .m b => match hat b h.t with
    | .m es _ => natF es.length fun n => k (.i .i64 (.ofNat n)) h
    | _ => bad 31
  | v => .bad 31 v
noncomputable def xLenA (n : Nat) : X := fun _ _ h k => k (.i .i64 (.ofNat n)) h
/-- The cells of a slice or a string. -/
noncomputable def srcOf (sz : Nat) (v : AV) (h : Hp) (k : Nat → List AV → Res) : Res :=
  match v with
  | .s n c => cif (Nat.beq sz 1) (k n (bytesOf n c)) (bad 32)
  | .sl0 => k 0 []
  | .sl b o n => cellsAt b h fun _ _ m t => cif (Nat.ble (Nat.add o (Nat.mul n sz)) m) (k n (t.cells (Nat.mul n sz) o)) (bad 32)
  | v => .bad 32 v
/-- An append: nothing; room that is known; or a new row of the same cells and more, the old one gone. -/
noncomputable def xApp (e sz by_ : Nat) (s x : O) : X := fun _ F h k => srcOf sz (x F) h fun m l =>
  Nat.rec (motive := fun _ => Res) (asSl (s F) (k .sl0 h) fun b o n => k (.sl b o n) h)
    (fun _ _ => cif (allSc l) (asSl (s F) (cif (Nat.ble (Nat.mul by_ (Nat.add (Nat.mul 2 m) 768)) 281474976710656) (newC e l h fun b h => k (.sl b 0 m) h) (bad 33))
      fun b o n => cellsAt b h fun own e1 n1 t => cif (an own (Nat.beq e e1)) (natF (Nat.add n m) fun n2 => natF (Nat.add o (Nat.mul n sz)) fun at_ =>
        natF (Nat.add o (Nat.mul n2 sz)) fun end_ =>
        cif (Nat.ble end_ n1) (k (.sl b o n2) ⟨hput b (.c own e n1 (setL l at_ t)) h.t, h.nx⟩)
        (cif (an (Nat.beq o 0) (an (Nat.ble at_ n1) (an (Nat.ble end_ 4096) (Nat.ble (Nat.mul by_ (Nat.add (Nat.mul 2 n2) 768)) 281474976710656))))
          (Hp.new (.c true e end_ (CT.lay l at_ t)) ⟨hput b .no h.t, h.nx⟩ fun b1 h => k (.sl b1 0 n2) h) (bad 40))) (bad 33)) (bad 34)) m
noncomputable def xCpy (sz : Nat) (d s : O) : X := fun _ F h k => srcOf sz (s F) h fun m l => cif (allSc l)
  (asSl (d F) (k (.i .i64 (.ofNat 0)) h) fun b o n => natF (cif (Nat.ble m n) m n) fun m => cellsAt b h fun own e n1 t =>
      cif (an own (Nat.ble (Nat.add o (Nat.mul m sz)) n1)) (k (.i .i64 (.ofNat m)) ⟨hput b (.c own e n1 (setL (takeL l (Nat.mul m sz)) o t)) h.t, h.nx⟩) (bad 34)) (bad 34)
noncomputable def minI (a b : Int) : Int := cif (ile a b) a b
noncomputable def maxI (a b : Int) : Int := cif (ile b a) a b
noncomputable def xMM (f : Int → Int → Int) (x y : O) : X := fun _ F h k => asII (x F) (y F) fun kd a b => intF (f a b) fun n => k (.i kd n) h
/-- Equality by kind: numbers, texts, truths; rows of such (kinds: 0, 1, 2). -/
noncomputable def eqKi (a b : AV) : Option Bool := match a, b with
  | .i k1 x, .i k2 y => cond (Nat.beq (kn k1) (kn k2)) (some (ieq x y)) none
  | .y x, .y y => cond (an (Nat.beq x y) (nt (yOdd x))) (some true) none
  | _, _ => none
noncomputable def eqKs (a b : AV) : Option Bool := match a, b with
  | .s n c, .s m d => some (an (Nat.beq n m) (Nat.beq c d))
  | x, y => eqY x y
noncomputable def eqKb (a b : AV) : Option Bool := match a, b with
  | .b x, .b y => some (cond x y (nt y))
  | _, _ => none
noncomputable def eqKl (ks : List Nat) : List AV → List AV → Option Bool :=
  List.rec (motive := fun _ => List AV → List AV → Option Bool) (fun x y => match x, y with
    | [], [] => some true
    | _, _ => none)
    (fun kd _ ih x y => match x, y with
      | a :: x, b :: y => match (match kd with | 0 => eqKi a b | 1 => eqKs a b | _ => eqKb a b) with
        | some true => ih x y
        | some false => some false
        | none => none
      | _, _ => none) ks
noncomputable def eqKg (ks : List Nat) (a b : AV) : Option Bool := match a, b with
  | .g x, .g y => eqKl ks x y
  | _, _ => none
noncomputable def find (q : AV → AV → Option Bool) (key : AV) (es : List (AV × AV)) : (Option AV → Res) → Res :=
  List.rec (motive := fun _ => (Option AV → Res) → Res) (fun k => k none)
    (fun e _ ih k => Prod.rec (motive := fun _ => Res) (fun a v => obF (q key a) fun b => cif b (k (some v)) (ih k)) e) es
noncomputable def xKeq (q : AV → AV → Option Bool) (neg : Bool) (x y : O) : X := fun _ F h k => obX (x F) (y F) (q (x F) (y F)) fun b => bF (cif neg (nt b) b) fun v => k v h
/-- A key is looked at by itself first: is it one of its type? -/
noncomputable def xSelf (q : AV → AV → Option Bool) (fl : Bool) (i : O) (x : X) : X := fun cl F h k => cif fl (obF (q (i F) (i F)) fun b => cif b (x cl F h k) (bad 90)) (x cl F h k)
/-- Is it nil? (0: a slice, 1: a pointer, 2: a map, 3: a function, 4: an interface) -/
noncomputable def nilO (kd : Nat) (v : AV) : Option Bool := match kd, v with
  | 0, .sl0 | 1, .p0 | 2, .m0 | 3, .f0 | 4, .if0 => some true
  | 0, .sl _ _ _ | 0, .sw _ | 1, .p _ _ | 2, .m _ | 3, .f _ _ _ | 4, .if_ _ _ => some false
  | _, _ => none
noncomputable def xNl (kd : Nat) (neg : Bool) (x : O) : X := fun _ F h k => obX (x F) .u (nilO kd (x F)) fun b => bF (cif neg (nt b) b) fun v => k v h
noncomputable def esOf (m : AV) (h : Hp) (k : List (AV × AV) → Nat → Res) : Res :=
  match m with
  | .m0 => k [] 0
  | .m b => match hat b h.t with
    | .m es c => k es c
    | _ => bad 36
  | v => .bad 36 v
noncomputable def xLk (q : AV → AV → Option Bool) (z : AV) (ok : Bool) (m i : O) : X := fun _ F h k => esOf (m F) h fun es _ => find q (i F) es fun r =>
  match r, ok with
  | some v, true => k (.t [v, .b true]) h
  | some v, false => k v h
  | none, true => k (.t [z, .b false]) h
  | none, false => k z h
noncomputable def upd (q : AV → AV → Option Bool) (key val : AV) : List (AV × AV) → List (AV × AV)
  | [] => []
  | (a, v) :: r => match q key a with
    | some true => (key, val) :: r
    | _ => (a, v) :: upd q key val r
noncomputable def xMu (q : AV → AV → Option Bool) (m i x : O) : X := fun _ F h k =>
  match m F with
  | .m b => esOf (.m b) h fun es c => find q (i F) es fun r =>
    match r with
    | some _ => k .u ⟨hput b (.m (upd q (i F) (x F) es) c) h.t, h.nx⟩
    | none => natF (Nat.succ c) fun c1 => k .u ⟨hput b (.m (es ++ [(i F, x F)]) c1) h.t, h.nx⟩
  | v => .bad 37 v
noncomputable def xTa (asserted : TypeId) (ok : Bool) (z : AV) (x : O) : X := fun _ F h k =>
  match x F, ok with
  | .if_ t v, true => cif (Nat.beq t asserted) (k (.t [v, .b true]) h) (k (.t [z, .b false]) h)
  | .if_ t v, false => cif (Nat.beq t asserted) (k v h) (bad 38)
  | .if0, true => k (.t [z, .b false]) h
  | v, _ => .bad 38 v
noncomputable def callV (cl : Cl) (f : AV) (args : List AV) (h : Hp) (k : K) : Res :=
  match f with
  | .f (.func g) first cap => cl.call g (appL first (appL args cap)) h k
  | v => .bad 39 v
noncomputable def xCall (f : FuncId) (args : List O) : X := fun cl F h k => cl.call f (mapO args F) h k
noncomputable def xCallV (f : O) (args : List O) : X := fun cl F h k => callV cl (f F) (mapO args F) h k

/-! types, as the table tells them; the translation of the code, each part brought to its end (the kernel keeps what it has found of closed terms) -/
section
variable (P : Program)
def szOf (t : TypeId) : Nat := P.cellsOf t
def fldOf (t : TypeId) (f : Nat) : Option Field := match P.underlying t with
  | some (.struct fs) => fs[f]?
  | _ => none
section
variable {α : Type}
noncomputable def boolF (b : Bool) (k : Bool → α) : α := cif b (k true) (k false)
/-- What stands at a place of eight; and what is made of it there. -/
noncomputable def g8 (d : D8) (k : ((β : Type) → T8 β → β) → α) : α :=
  D8.rec (motive := fun _ => α) (k fun _ t => t.a) (k fun _ t => t.b) (k fun _ t => t.c) (k fun _ t => t.d) (k fun _ t => t.e) (k fun _ t => t.f) (k fun _ t => t.g) (k fun _ t => t.h) d
noncomputable def m8 (d : D8) (k : ((β : Type) → (β → β) → T8 β → T8 β) → α) : α :=
  D8.rec (motive := fun _ => α) (k fun β z t => T8.rec (motive := fun _ => T8 β) (fun a b c d e f g h => ⟨z a, b, c, d, e, f, g, h⟩) t)
    (k fun β z t => T8.rec (motive := fun _ => T8 β) (fun a b c d e f g h => ⟨a, z b, c, d, e, f, g, h⟩) t)
    (k fun β z t => T8.rec (motive := fun _ => T8 β) (fun a b c d e f g h => ⟨a, b, z c, d, e, f, g, h⟩) t)
    (k fun β z t => T8.rec (motive := fun _ => T8 β) (fun a b c d e f g h => ⟨a, b, c, z d, e, f, g, h⟩) t)
    (k fun β z t => T8.rec (motive := fun _ => T8 β) (fun a b c d e f g h => ⟨a, b, c, d, z e, f, g, h⟩) t)
    (k fun β z t => T8.rec (motive := fun _ => T8 β) (fun a b c d e f g h => ⟨a, b, c, d, e, z f, g, h⟩) t)
    (k fun β z t => T8.rec (motive := fun _ => T8 β) (fun a b c d e f g h => ⟨a, b, c, d, e, f, z g, h⟩) t)
    (k fun β z t => T8.rec (motive := fun _ => T8 β) (fun a b c d e f g h => ⟨a, b, c, d, e, f, g, z h⟩) t) d
noncomputable def slG (n : Nat) (k : O → α) : α :=
  g8 (dg (Nat.div n 64)) fun g1 => g8 (dg (Nat.mod (Nat.div n 8) 8)) fun g2 => g8 (dg (Nat.mod n 8)) fun g3 => k fun t => g3 _ (g2 _ (g1 _ t))
abbrev St := AV → Fr → Fr
noncomputable def slM (n : Nat) (k : St → α) : α :=
  m8 (dg (Nat.div n 64)) fun g1 => m8 (dg (Nat.mod (Nat.div n 8) 8)) fun g2 => m8 (dg (Nat.mod n 8)) fun g3 => k fun v t => g1 _ (fun t => g2 _ (fun t => g3 _ (fun _ => v) t) t) t
noncomputable def avF (v : AV) (k : AV → α) : α := match v with
  | .u => k .u
  | .b x => k (.b x)
  | .i kd n => intF n fun n => k (.i kd n)
  | .s n c => k (.s n c)
  | .p b o => k (.p b o)
  | .p0 => k .p0
  | .sl b o n => k (.sl b o n)
  | .sl0 => k .sl0
  | .m b => k (.m b)
  | .m0 => k .m0
  | .f fn a b => k (.f fn a b)
  | .f0 => k .f0
  | .if_ t v => k (.if_ t v)
  | .if0 => k .if0
  | .g l => k (.g l)
  | .t l => k (.t l)
  | .y n => k (.y n)
  | .sw b => k (.sw b)
noncomputable def mapF {β γ : Type} (l : List β) (f : β → (γ → α) → α) (k : List γ → α) : α :=
  List.rec (motive := fun _ => (List γ → α) → α) (fun k => k []) (fun x _ ih k => f x fun x => ih fun r => k (x :: r)) l k
noncomputable def cst (v : AV) : O := fun _ => v
noncomputable def valF (v : Value) (k : AV → α) : α := match v with
  | .agg cs => mapF cs.toList (fun x k => avF (trS x) k) fun l => k (.g l)
  | .tuple cs => mapF cs.toList (fun x k => avF (trS x) k) fun l => k (.t l)
  | v => avF (trS v) k
noncomputable def opF (x : Operand) (k : O → α) : α := match x with
  | .tmp n => slG n k
  | .const v => valF v fun v => k (cst v)
  | .global g => idF (gid g) fun i => k (cst (.p i 0))
  | .func f => k (cst (.f (.func f) [] []))
noncomputable def opsF (l : List Operand) (k : List O → α) : α := mapF l opF k
noncomputable def zeroVF (t : TypeId) (b : α) (k : AV → α) : α := match P.info? t with
  | some i => match i.zero with
    | some v => valF v k
    | none => b
  | none => b
noncomputable def zeroF (t : TypeId) (b : α) (k : List AV → α) : α := zeroVF P t b fun v => k (cellsOf v)
/-- How many cells a value of a type has. -/
noncomputable def szF (t : TypeId) (b : α) (k : Nat → α) : α := match P.info? t with
  | some i => natF i.size k
  | none => b
/-- How many bytes a value of a type has; its zero has as many cells as it says. -/
noncomputable def byF (t : TypeId) (b : α) (k : Nat → α) : α := match P.info? t with
  | some i => match i.zero with
    | some v => cif (Nat.beq v.cells.size i.size) (natF i.bytes k) b
    | none => b
  | none => b
/-- Is a type one of several cells? -/
noncomputable def agF (t : TypeId) (b : α) (k : Bool → α) : α := match P.underlying t with
  | some (.struct _) | some (.array _ _) => k true
  | some _ => k false
  | none => b
noncomputable def oopF (x : Option Operand) (k : Option O → α) : α := match x with
  | none => k none
  | some x => opF x fun x => k (some x)
noncomputable def partsF (place : Nat → Option (Nat × Nat)) (ps : List (Nat × Operand)) (k : List Pt → α) : α :=
  mapF ps (fun p k => opF p.2 fun x => match place p.1 with
    | some (i, s) => natF i fun i => natF s fun s => k ⟨i, s, x⟩
    | none => k ⟨0, 1000000, x⟩) k
noncomputable def limF (kd : IntKind) (k : Nat → α) : α := natF (lim kd) k
end
def kdOf (t : TypeId) : Option Nat := match P.underlying t with
  | some (.int _) => some 0
  | some .string => some 1
  | some .bool => some 2
  | _ => none
def leafs : List Field → Nat → Option (List Nat)
  | [], _ => some []
  | f :: r, n => match kdOf P f.type, leafs r (n + 1) with
    | some k, some l => cond (!(f.name == "_") && f.offset == n && ((P.info? f.type).map (·.size) == some 1)) (some (k :: l)) none
    | _, _ => none
/-- The kinds of the cells of a flat type. -/
def flatO (t : TypeId) : Option (List Nat) := match P.underlying t with
  | some (.struct fs) => cond (P.stoodInHeld t) none (leafs P fs.toList 0)
  | some (.array n e) => match kdOf P e with
    | some k => cond ((P.info? e).map (·.size) == some 1) (some (List.replicate n k)) none
    | none => none
  | _ => none
/-- How keys of a type are compared. -/
noncomputable def keyF {α : Type} (t : TypeId) (b : α) (k : (AV → AV → Option Bool) → Bool → α) : α := match P.underlying t with
  | some (.int _) => k eqKi false
  | some .string => k eqKs false
  | some .bool => k eqKb false
  | _ => match flatO P t with
    | some l => mapF l (fun n k => natF n k) fun l => k (eqKg l) true
    | none => b
def isNilC (x : Operand) : Nat := match x with
  | .const (.slice none 0 0) => 0
  | .const (.pointer none) => 1
  | .const (.map none) => 2
  | .const .nilFunc => 3
  | .const .nilIface => 4
  | _ => 5
/-- A row of it is none of bytes. -/
def noByte (t : TypeId) : Bool := match P.underlying t with
  | some (.int .u8) => false
  | _ => true
noncomputable def binX {α : Type} (op : BinOp) (t : TypeId) (x y : O) (yn : Nat) (k : X → α) : α :=
  let eqX := fun (d : Option TypeDesc) (neg : Bool) => match d with
    | some .bool => k (xKeq eqKb neg x y)
    | some (.struct _) => cif (Nat.ble 2 P.depth) (keyF P t (k (xBad 66)) fun q _ => k (xKeq q neg x y)) (k (xBad 66))
    | some (.slice _) => cif (Nat.beq yn 0) (k (xNl 0 neg x)) (k (xBad 66))
    | some (.pointer e) => cif (Nat.beq yn 1) (k (xNl 1 neg x)) (szF P e (k (xBad 66)) fun n => cif (Nat.beq n 0) (k (xBad 66)) (k (xPq (noByte P) neg x y)))
    | some (.map _ _) => cif (Nat.beq yn 2) (k (xNl 2 neg x)) (k (xBad 66))
    | some (.func _ _ _) => cif (Nat.beq yn 3) (k (xNl 3 neg x)) (k (xBad 66))
    | some (.interface _) => cif (Nat.beq yn 4) (k (xNl 4 neg x)) (k (xBad 66))
    | _ => k (xBad 66)
  match P.underlying t with
  | some (.int _) => match op with
    | .add => k (xI2 iadd x y)
    | .sub => k (xI2 isub x y)
    | .mul => k (xI2 Int.mul x y)
    | .quo => k (xDiv x y)
    | .rem => k (xRem x y)
    | .eql => k (xIe false x y)
    | .neq => k (xIe true x y)
    | .lss => k (xCmp true true x y)
    | .leq => k (xCmp false false x y)
    | .gtr => k (xCmp false true x y)
    | .geq => k (xCmp true false x y)
    | .and => k (xNN Nat.land x y)
    | .or => k (xNN Nat.lor x y)
    | .shl => k (xShl x y)
    | .shr => k (xShr x y)
    | _ => k (xBad 64)
  | some .string => match op with
    | .add => k (xCat x y)
    | .eql => k (xSeq false x y)
    | .neq => k (xSeq true x y)
    | _ => k (xBad 65)
  | d => match op with
    | .eql => eqX d false
    | .neq => eqX d true
    | _ => k (xBad 66)
noncomputable def placeOf (t : TypeId) (i : Nat) : Option (Nat × Nat) := match P.underlying t with
  | some (.struct fs) => (fs[i]?).map fun f => (f.offset, szOf P f.type)
  | some (.array _ e) => some (i * szOf P e, szOf P e)
  | _ => none
/-- Are the sizes of a struct's fields known? -/
def fldsOk (t : TypeId) : Bool := match P.underlying t with
  | some (.struct fs) => fs.toList.all fun f => (P.info? f.type).isSome
  | some (.array _ e) => (P.info? e).isSome
  | _ => false
noncomputable def trX {α : Type} (o : Op) (k : X → α) : α := match o with
  | .move x | .assign x => opF x fun x => k (xMv x)
  | .pick c a b => opF c fun c => opF a fun a => opF b fun b => k (xPick c a b)
  | .alloc e => zeroF P e (k (xBad 41)) fun z => k (xAl e z)
  | .box e x => opF x fun x => k (xBox e x)
  | .build t ps => cif (fldsOk P t) (zeroF P t (k (xBad 42)) fun z => cif (Nat.ble 1000000 (lenL z)) (k (xBad 42)) <| partsF (placeOf P t) ps.toList fun ps => k (xBld z ps)) (k (xBad 42))
  | .buildSlice t len ps => match P.underlying t with
    | some (.slice e) => byF P e (k (xBad 43)) fun _ => szF P e (k (xBad 43)) fun sz => cif (Nat.ble 1000000 (Nat.mul len sz)) (k (xBad 43)) <| zeroF P e (k (xBad 43)) fun z => partsF (fun i => some (i * sz, sz)) ps.toList fun ps => k (xBldS e len z ps)
    | _ => k (xBad 50)
  | .insert t m i v | .mapUpdate t m i v => opF m fun m => opF i fun i => opF v fun v => match P.underlying t with
    | some (.map kt _) => keyF P kt (k (xBad 48)) fun q fl => k (xSelf q fl i (xMu q m i v))
    | _ => k (xBad 48)
  | .load t a => opF a fun a => agF P t (k (xBad 44)) fun g => cif g (szF P t (k (xBad 44)) fun n => k (xLdN n a)) (k (xLd1 a))
  | .store t a x => opF a fun a => opF x fun x => szF P t (k (xBad 45)) fun n => agF P t (k (xBad 45)) fun g => cif g (k (xStN n a x)) (cif (Nat.beq n 1) (k (xSt1 a x)) (k (xBad 45)))
  | .nilCheck x => opF x fun x => k (xNil x)
  | .binOp op t x y _ => opF x fun xo => opF y fun yo => binX P op t xo yo (isNilC y) k
  | .unOp op _ x => opF x fun x => match op with
    | .not => k (xNot x)
    | .neg => k (xNeg x)
    | _ => k (xBad 67)
  | .convert src dst x => opF x fun x => match P.underlying src, P.underlying dst with
    | some (.int _), some (.int kd) => limF kd fun lm => k (xCvI kd lm x)
    | some .string, some .string => k (xCvS x)
    | some (.slice e), some .string => match P.underlying e with
      | some (.int .u8) => k (xCvBS x)
      | _ => k (xBad 51)
    | some .string, some (.slice e) => match P.underlying e with
      | some (.int .u8) => szF P e (k (xBad 51)) fun sz => cif (Nat.beq sz 1) (k (xCvSB e x)) (k (xBad 51))
      | _ => k (xBad 51)
    | _, _ => k (xBad 51)
  | .makeInterface t x => opF x fun x => match P.underlying t with
    | some (.interface _) => k (xBad 47)
    | some _ => k (xMkI t x)
    | none => k (xBad 47)
  | .makeFunc fn a b => opsF a.toList fun a => opsF b.toList fun b => k (xMkF fn a b)
  | .makeMap _ none => k xMkM
  | .makeSlice t l c => match P.underlying t with
    | some (.slice e) => zeroF P e (k (xBad 52)) fun z => byF P e (k (xBad 52)) fun y => opF l fun l => opF c fun c => k (xMkS e y z l c)
    | _ => k (xBad 52)
  | .slice t x lo hi none => opF x fun x => oopF lo fun lo => oopF hi fun hi => match P.underlying t with
    | some .string => k (xSlS x lo hi)
    | some (.slice e) => szF P e (k (xBad 53)) fun sz => k (xSlL e sz x lo hi)
    | _ => k (xBad 53)
  | .fieldAddr t x f => opF x fun x => match fldOf P t f with
    | some f => szF P f.type (k (xBad 54)) fun sz => cif (Nat.beq sz 0) (k (xBad 54)) (natF f.offset fun n => k (xFa n x))
    | none => k (xBad 54)
  | .field t x f => opF x fun x => match fldOf P t f with
    | some f => agF P f.type (k (xBad 55)) fun ag => szF P f.type (k (xBad 55)) fun sz => natF f.offset fun n => k (xFd ag sz n x)
    | none => k (xBad 55)
  | .indexAddr t x i => opF x fun x => opF i fun i => match P.underlying t with
    | some (.slice e) => szF P e (k (xBad 56)) fun sz => k (xIaS sz x i)
    | some (.array n e) => szF P e (k (xBad 56)) fun sz => k (xIaA n sz x i)
    | _ => k (xBad 56)
  | .index t x i => opF x fun x => opF i fun i => match P.underlying t with
    | some .string => k (xIxS x i)
    | some (.array n e) => agF P e (k (xBad 57)) fun ag => szF P e (k (xBad 57)) fun sz => k (xIxA n ag sz x i)
    | _ => k (xBad 57)
  | .lookup t m i ok => opF m fun m => opF i fun i => match P.underlying t with
    | some (.map kt e) => zeroVF P e (k (xBad 58)) fun z => keyF P kt (k (xBad 58)) fun q fl => k (xSelf q fl i (xLk q z ok m i))
    | _ => k (xBad 58)
  | .typeAssert x _ t ok => opF x fun x => match P.underlying t with
    | some (.interface _) => k (xBad 59)
    | some _ => zeroVF P t (k (xBad 59)) fun z => k (xTa t ok z x)
    | none => k (xBad 59)
  | .extract x i => opF x fun x => k (xExt x i)
  | .call { callee := .value (.func f), args, .. } => opsF args.toList fun l => k (xCall f l)
  | .call { callee := .value f, args, .. } => opF f fun f => opsF args.toList fun l => k (xCallV f l)
  | .call { callee := .builtin b, args, argTypes } => match b, args.toList with
    | .len, [x] => match (argTypes[0]?).bind P.underlying with
      | some (.array n _) => k (xLenA n)
      | some .string => opF x fun x => k (xLenS x)
      | some (.slice _) => opF x fun x => k (xLenL x)
      | some (.map _ _) => opF x fun x => k (xLenM x)
      | _ => k (xBad 60)
    | .append, [s, x] => match (argTypes[0]?).bind P.underlying with
      | some (.slice e) => match (argTypes[1]?).bind P.underlying with
        | some (.slice _) | some .string => opF s fun s => opF x fun x => szF P e (k (xBad 60)) fun sz => byF P e (k (xBad 60)) fun y => cif (Nat.beq sz 0) (k (xBad 60)) (k (xApp e sz y s x))
        | _ => k (xBad 60)
      | _ => k (xBad 60)
    | .copy, [d, s] => match (argTypes[0]?).bind P.underlying with
      | some (.slice e) => opF d fun d => opF s fun s => szF P e (k (xBad 61)) fun sz => k (xCpy sz d s)
      | _ => k (xBad 61)
    | .min, [x, y] => opF x fun x => opF y fun y => k (xMM minI x y)
    | .max, [x, y] => opF x fun x => opF y fun y => k (xMM maxI x y)
    | _, _ => k (xBad 62)
  | _ => k (xBad 63)

abbrev Gd := Option (O × Bool)
inductive OI where
  | op (x : X) (s : St)
  | opN (x : X)
  | opG (g : O) (want : Bool) (x : X) (s : St)
  | chk (x : X) (g : O)
  | chkG (c : O) (want : Bool) (x : X) (g : O)
  | df (f : O) (args : List O) (s : St)
  | bad (n : Nat)

def dfOf : Op → Option (Operand × Array Operand)
  | .defer { callee := .value f, args, .. } => some (f, args)
  | _ => none
noncomputable def trOp (ops : Array Oper) (o : Oper) : OI :=
  match dfOf o.op with
  | some (f, args) => match o.guard with
    | none => opF f fun f => opsF args.toList fun l => match o.dst with
      | some d => slM d fun s => .df f l s
      | none => .df f l fun _ F => F
    | some _ => .bad 78
  | none => match o.guard with
    | none => match o.dst with
      | some d => trX P o.op fun x => slM d fun s => .op x s
      | none => trX P o.op fun x => .opN x
    | some (j, w) => match o.dst with
      | some d => match (ops[j]?).bind (·.dst) with
        | some g => trX P o.op fun x => slM d fun s => slG g fun g => boolF w fun w => .opG g w x s
        | none => .bad 77
      | none => .bad 76

/-! a region that draws its order: effects in their chain, the rest as early as may be, what reads looked at again where what it reads may have changed -/
/-- What an operation is: it only computes; it reads; it makes memory; it fills a map that is being made; it acts. -/
inductive Kd where
  | pure | read | make | ins | eff | no
  deriving DecidableEq
def kdOp : Op → Kd
  | .move _ | .assign _ | .pick .. | .build .. | .nilCheck _ | .unOp .. | .makeInterface .. | .makeFunc .. | .fieldAddr .. | .field .. | .indexAddr .. | .index .. | .typeAssert .. | .extract .. => .pure
  | .binOp _ t _ y _ => match P.underlying t with
    | some (.pointer _) => cond (Nat.beq (isNilC y) 1) .pure .read
    | _ => .pure
  | .call { callee := .builtin .min, .. } | .call { callee := .builtin .max, .. } => .pure
  | .load .. | .lookup .. | .slice .. | .call { callee := .builtin .len, .. } => .read
  | .convert _ dst _ => match P.underlying dst with
    | some (.slice _) => .no
    | _ => .read
  | .alloc _ | .box .. | .buildSlice .. | .makeSlice .. | .makeMap .. => .make
  | .insert .. => .ins
  | _ => .eff
/-- Of each operation those ahead of it: a number's bits. -/
def ancs : List Oper → List Nat → List Nat
  | [], _ => []
  | o :: r, acc =>  -- acc: those ahead, the last one first
    let m := o.after.toList.foldl (fun s e => cond (Region.binds .any e) (Nat.lor s (Nat.lor (Nat.pow 2 e.on) (acc.getD (acc.length - 1 - e.on) 0))) s) 0
    m :: ancs r (m :: acc)
structure Row where
  i : Nat
  o : Oper
  anc : Nat
def hasBit (n i : Nat) : Bool := Nat.beq (Nat.mod (Nat.shiftRight n i) 2) 1
def sub (m n : Nat) : Bool := Nat.beq (Nat.land m n) m
def rows : List Oper → List Nat → Nat → List Row
  | o :: r, a :: s, i => ⟨i, o, a⟩ :: rows r s (i + 1)
  | _, _, _ => []
def tmpsO : Operand → List Nat
  | .tmp n => [n]
  | _ => []
def looksO (ops : Array Oper) (o : Oper) : List Nat := o.op.operands.toList.flatMap tmpsO ++ (match o.guard with
  | some (j, _) => ((ops[j]?).bind (·.dst)).toList
  | none => [])
/-- Who writes a slot. -/
def wrOf : List Row → Nat → Option Row
  | [], _ => none
  | r :: rs, t => match r.o.dst with
    | some d => cond (Nat.beq d t) (some r) (wrOf rs t)
    | none => wrOf rs t
def rowOk (ops : Array Oper) (rs : List Row) (r : Row) : Bool :=
  r.o.after.toList.all (fun e => !Region.binds .any e || Nat.blt e.on r.i) &&
  (match r.o.dst with
    | some t => match wrOf rs t with
      | some q => Nat.beq q.i r.i
      | none => false
    | none => true) &&
  (looksO ops r.o).all fun t => match wrOf rs t with
    | some q => !Nat.beq q.i r.i && (hasBit r.anc q.i || (hasBit q.anc r.i && !(kdOp P r.o.op == .read)))
    | none => true
/-- A map that is made and filled: where it stands, and those that fill it. -/
def insOf : Op → Option (Nat × Int × Operand)
  | .insert _ (.tmp s) (.const (.int .i64 n)) v => some (s, n, v)
  | _ => none
def insMask (rs : List Row) : Nat := rs.foldl (fun m r => cond (kdOp P r.o.op == .ins) (Nat.lor m (Nat.pow 2 r.i)) m) 0
def insKeys (rs : List Row) : List Int := rs.filterMap fun r => (insOf r.o.op).map (·.2.1)
def nodupI : List Int → Bool
  | [] => true
  | a :: l => !(l.any fun b => a == b) && nodupI l
def mapInt : Op → Bool
  | .insert t _ _ _ => match P.underlying t with
    | some (.map kt _) => match P.underlying kt with
      | some (.int _) => true
      | _ => false
    | _ => false
  | _ => false
def litOk (ops : Array Oper) (rs : List Row) : Bool := match rs.find? fun r => kdOp P r.o.op == .ins with
  | none => true
  | some r0 => match insOf r0.o.op with
    | none => false
    | some (s, _, _) => match wrOf rs s with
      | none => false
      | some q => (match q.o.op with | .makeMap _ none => true | _ => false) && nodupI (insKeys rs) &&
        let m := insMask P rs
        rs.all fun r => cond (kdOp P r.o.op == .ins)
          (r.o.guard.isNone && hasBit r.anc q.i && mapInt P r.o.op && (match insOf r.o.op with
            | some (s', _, v) => Nat.beq s' s && !(tmpsO v).any (Nat.beq s)
            | none => false))
          (!(looksO ops r.o).any (Nat.beq s) || sub m r.anc)
/-- A run, and a look at what was run. -/
inductive PI where
  | run (r : Row)
  | chk (r : Row)
def lvl (effs : List Row) (r : Row) : Nat := (effs.filter fun e => hasBit r.anc e.i).length
/-- Done one behind the other: each only where all ahead of it is done. -/
def runM : List Row → Nat → Option Nat
  | [], m => some m
  | r :: rs, m => cond (sub r.anc m && !hasBit m r.i) (runM rs (Nat.lor m (Nat.pow 2 r.i))) none
def blockOf (quiet effs : List Row) (l : Nat) : List Row := quiet.filter fun r => Nat.beq (lvl effs r) l
def isK (k : Kd) (r : Row) : Bool := kdOp P r.o.op == k
/-- What is looked at again at a block's end. -/
def chksOf (q live1 live : List Row) : List Row := cond (q.any fun r => isK P .make r || isK P .ins r) live1 live
def planGo (quiet effs : List Row) : List Row → Nat → Nat → List Row → Option (List PI)
  | [], l, m, live =>
    let q := blockOf quiet effs l
    match runM q m with
    | none => none
    | some _ => some (q.map .run ++ (chksOf P q (live ++ q.filter (isK P .read)) live).map .chk)
  | e :: es, l, m, live =>
    let q := blockOf quiet effs l
    match runM q m with
    | none => none
    | some m1 =>
      let live1 := live ++ q.filter (isK P .read)
      cond (sub e.anc m1 && !hasBit m1 e.i) (match planGo quiet effs es (l + 1) (Nat.lor m1 (Nat.pow 2 e.i)) (live1.filter fun r => !hasBit e.anc r.i) with
       | some t => some (q.map .run ++ (chksOf P q live1 live).map .chk ++ .run e :: t)
       | none => none) none
def chainOk : List Row → Bool
  | a :: b :: r => hasBit b.anc a.i && chainOk (b :: r)
  | _ => true
/-- What is asked of each operation's form. -/
def formOk (r : Row) : Bool := match kdOp P r.o.op with
  | .no => false
  | .eff => true
  | .ins => r.o.dst.isNone || r.o.dst.isSome
  | .make => r.o.dst.isSome && r.o.guard.isNone
  | _ => r.o.dst.isSome
def plan (ops : Array Oper) : Option (List PI) :=
  let rs := rows ops.toList (ancs ops.toList []) 0
  let effs := rs.filter (isK P .eff)
  cond (rs.all (fun r => rowOk P ops rs r && formOk P r) && litOk P ops rs && chainOk effs) (planGo P (rs.filter fun r => !isK P .eff r) effs effs 0 0 []) none
noncomputable def chkOf (ops : Array Oper) (r : Row) : OI := match r.o.guard, r.o.dst with
  | none, some d => trX P r.o.op fun x => slG d fun g => .chk x g
  | some (j, w), some d => match (ops[j]?).bind (·.dst) with
    | some c => trX P r.o.op fun x => slG d fun g => slG c fun c => boolF w fun w => .chkG c w x g
    | none => .bad 79
  | _, _ => .bad 79
noncomputable def trPI (ops : Array Oper) : PI → OI
  | .run r => trOp P ops r.o
  | .chk r => chkOf P ops r
noncomputable def trD (ops : Array Oper) : List OI := match plan P ops with
  | some l => l.map (trPI P ops)
  | none => [.bad 81]
structure OL where
  l : List OI
noncomputable def oiF {α : Type} (o : OI) (k : OI → α) : α :=
  OI.rec (motive := fun _ => α) (fun x s => k (.op x s)) (fun x => k (.opN x)) (fun g w x s => k (.opG g w x s)) (fun x g => k (.chk x g)) (fun c w x g => k (.chkG c w x g)) (fun f l s => k (.df f l s)) (fun n => k (.bad n)) o
noncomputable def trR (ops : Array Oper) (draw : Bool) : OL :=
  cif draw (mapF (trD P ops) (fun o k => oiF o k) OL.mk) (mapF ops.toList (fun o k => oiF (trOp P ops o) k) OL.mk)

mutual
noncomputable def same : AV → AV → Bool
  | .g x, .g y => sameL x y
  | .t x, .t y => sameL x y
  | .i k x, .i l y => an (Nat.beq (kn k) (kn l)) (ieq x y)
  | .sl b o n, .sl c q m => an (deqI b c) (an (Nat.beq o q) (Nat.beq n m))
  | .m b, .m c => deqI b c
  | .sw b, .sw c => deqI b c
  | .if_ t v, .if_ u w => an (Nat.beq t u) (same v w)
  | .f (.func i) a b, .f (.func j) c d => an (Nat.beq i j) (an (sameL a c) (sameL b d))
  | x, y => match eq1 x y with
    | some b => b
    | none => false
noncomputable def sameL : List AV → List AV → Bool
  | [], [] => true
  | a :: x, b :: y => an (same a b) (sameL x y)
  | _, _ => false
end
abbrev KR := Fr → List Dfr → Hp → Res
/-- Is it a function? -/
noncomputable def isF (v : AV) (k : Res) : Res :=
  AV.rec (motive_1 := fun _ => Res) (motive_2 := fun _ => Unit) (bad 86) (fun _ => bad 86) (fun _ _ => bad 86) (fun _ _ => bad 86) (fun _ _ => bad 86) (bad 86) (fun _ _ _ => bad 86) (bad 86) (fun _ => bad 86) (bad 86) (fun _ _ _ _ _ => k) (bad 86) (fun _ _ _ => bad 86) (bad 86) (fun _ _ => bad 86) (fun _ _ => bad 86) (fun _ => bad 86) (fun _ => bad 86) () (fun _ _ _ _ => ()) v
noncomputable def wanted (v : AV) (w : Bool) (y n : Res) : Res := avE (bad 102) (fun b => cif (cif b w (nt w)) y n) (fun _ _ => bad 102) (fun _ _ => bad 102) (fun _ _ => bad 102) (fun _ _ _ => bad 102) (bad 102) (fun _ => bad 102) (fun _ => n) v
noncomputable def evOps (cl : Cl) (k : KR) (l : List OI) : Fr → List Dfr → Hp → Res :=
  List.rec (motive := fun _ => Fr → List Dfr → Hp → Res) k
    (fun o _ ih F D h => OI.rec (motive := fun _ => Res)
      (fun x s => x cl F h fun v h => ih (s v F) D h)
      (fun x => x cl F h fun _ h => ih F D h)
      (fun g w x s => wanted (g F) w (x cl F h fun v h => ih (s v F) D h) (ih (s (.t []) F) D h))
      (fun x g => x cl F h fun v _ => cif (same v (g F)) (ih F D h) (bad 82))
      (fun c w x g => wanted (c F) w (x cl F h fun v _ => cif (same v (g F)) (ih F D h) (bad 82)) (ih F D h))
      (fun f args s => isF (f F) (ih (s (.t []) F) (⟨f F, mapO args F⟩ :: D) h))
      (fun n => bad n) o) l

structure Bx where
  o : O
noncomputable def exE (e : Ex) (n : Res) (x : Nat → Res) (g : Nat → Res) (r : Res) : Res := Ex.rec (motive := fun _ => Res) n x g r e
abbrev EC := Cl → Fr → List Dfr → Hp → KC → Res
noncomputable def evC (c : Code) : EC :=
  Code.rec (motive := fun _ => EC)
    (fun _ F D h k => k .normal F D h)
    (fun _ ops draw cl F D h k => OL.rec (motive := fun _ => Res) (fun l => evOps cl (k .normal) l F D h) (trR P ops draw))
    (fun _ _ iha ihb cl F D h k => iha cl F D h fun e F D h => exE e (ihb cl F D h k) (fun i => k (.exit i) F D h) (fun l => k (.goto l) F D h) (k .ret F D h))
    (fun c _ _ iha ihb cl F D h k => Bx.rec (motive := fun _ => Res) (fun o => asB (o F) fun b => cif b (iha cl F D h k) (ihb cl F D h k)) (opF c Bx.mk))
    (fun id _ ih cl F D h k => ih cl F D h fun e F D h => exE e (k .normal F D h) (fun i => cif (Nat.beq i id) (k .normal F D h) (k (.exit i) F D h)) (fun l => k (.goto l) F D h) (k .ret F D h))
    (fun body _ cl F D h k => cl.code (.loop body) body F D h k)
    (fun _ _ _ _ _ _ _ _ _ _ _ => bad 71)
    (fun id _ F D h k => k (.exit id) F D h)
    (fun body _ cl F D h k => cl.code (.scope body) body F D h k)
    (fun _ _ F D h k => k .normal F D h)
    (fun l _ F D h k => k (.goto l) F D h)
    (fun _ F D h k => k .ret F D h)
    (fun _ _ _ _ _ _ => bad 72) c

noncomputable def argsIn (l : List AV) : Nat → Fr → Fr :=
  List.rec (motive := fun _ => Nat → Fr → Fr) (fun _ F => F) (fun a _ ih n F => ih (Nat.succ n) (slM n fun s => s a F)) l
noncomputable def resOf (rs : List ResultVar) (F : Fr) (h : Hp) : (List AV → Res) → Res :=
  List.rec (motive := fun _ => (List AV → Res) → Res) (fun k => k [])
    (fun r _ ih k => ResultVar.rec (motive := fun _ => Res) (fun t => slG t fun g => ih fun l => k (g F :: l))
      (fun a t => slG a fun g => asP (g F) fun b o => cellsAt b h fun _ _ n ct => agF P t (bad 83) fun ag => szF P t (bad 83) fun sz => cif ag
        (cif (Nat.ble (Nat.add o sz) n) (ih fun l => k (.g (ct.cells sz o) :: l)) (bad 83))
        (cif (Nat.ble n o) (bad 83) (ih fun l => k (ct.get o :: l)))) r) rs
noncomputable def tupOf (l : List AV) : AV :=
  List.rec (motive := fun _ => AV) (.t []) (fun v r _ => List.rec (motive := fun _ => AV) v (fun _ _ _ => .t l) r) l
/-! what a function's code may name -/
def okO : Operand → Bool
  | .tmp n => Nat.blt n 512
  | .global g => Nat.blt g P.globals.size
  | _ => true
def okOp (N : Nat) (ops : Array Oper) (o : Oper) : Bool :=
  o.op.operands.toList.all (okO P) && (match o.dst with
    | some d => Nat.blt d N && Nat.blt d 512
    | none => true) && (match o.guard with
    | some (j, _) => match (ops[j]?).bind (·.dst) with
      | some d => Nat.blt d 512
      | none => true
    | none => true)
def okC (N : Nat) : Code → Bool
  | .region _ ops _ => ops.toList.all (okOp P N ops)
  | .seq a b => okC N a && okC N b
  | .cond c a b => okO P c && okC N a && okC N b
  | .block _ b => okC N b
  | .loop b => okC N b
  | .scope b => okC N b
  | _ => true
def okR (l : List ResultVar) : Bool := l.all fun
  | .tmp t => Nat.blt t 512
  | .cell a _ => Nat.blt a 512
structure Bd where
  c : Code
  rs : List ResultVar
  n : Nat
def bodyOf (f : FuncId) : Option Bd := match P.funcs[f]? with
  | some fn => match fn.body with
    | some c => cond (okC P fn.ntmps c && okR fn.results.toList) (some ⟨c, fn.results.toList, fn.ntmps⟩) none
    | none => none
  | none => none

variable (R : FuncId → Option (Cl → List AV → Hp → K → Res)) (idle : FuncId → Nat → Bool)
/-- A function's body, run; what is done with what was put off. -/
noncomputable def bodyA (cl : Cl) (f : FuncId) (args : List AV) (h : Hp) (fin : List Dfr → Hp → (Hp → Res) → Res) (k : K) : Res :=
  Option.rec (motive := fun _ => Res) (.bad 73 (.y f))
    (fun b => cif (an (Nat.ble (lenL args) b.n) (Nat.ble (lenL args) 512)) (cl.code .plain b.c (argsIn args 0 u3) [] h fun e F D h =>
      exE e (fin D h fun h => resOf P b.rs F h fun l => k (tupOf l) h) (fun _ => bad 74) (fun _ => bad 74) (fin D h fun h => resOf P b.rs F h fun l => k (tupOf l) h)) (bad 84)) (bodyOf P f)
noncomputable def noD (D : List Dfr) (h : Hp) (k : Hp → Res) : Res := List.rec (motive := fun _ => Res) (k h) (fun _ _ _ => bad 85) D
/-- What was put off is done, the last one first. -/
noncomputable def runD (cl : Cl) (D : List Dfr) : Hp → (Hp → Res) → Res :=
  List.rec (motive := fun _ => Hp → (Hp → Res) → Res) (fun h k => k h) (fun d _ ih h k => match d.fn with
    | .f (.func g) first cap => cif (idle g (lenL (appL first (appL d.args cap)))) (ih h k) (bodyA P cl g (appL first (appL d.args cap)) h noD fun _ h => ih h k)
    | v => .bad 39 v) D
noncomputable def callA (cl : Cl) (f : FuncId) (args : List AV) (h : Hp) (k : K) : Res :=
  Option.rec (motive := fun _ => Res) (bodyA P cl f args h (runD P idle cl) k) (fun r => r cl args h k) (R f)
noncomputable def codeA (cl : Cl) (md : Md) (c : Code) (F : Fr) (D : List Dfr) (h : Hp) (k : KC) : Res :=
  evC P c cl F D h (Md.rec (motive := fun _ => KC) k
    (fun b e F D h => exE e (k .normal F D h) (fun i => k (.exit i) F D h)
      (fun l => match findLabel b l with
        | some rest => cl.code (.scope b) rest F D h k
        | none => k (.goto l) F D h) (k .ret F D h))
    (fun b e F D h => exE e (cl.code (.loop b) b F D h k) (fun i => k (.exit i) F D h) (fun l => k (.goto l) F D h) (k .ret F D h)) md)
noncomputable def run (n : Nat) : Cl :=
  Nat.rec (motive := fun _ => Cl) ⟨fun _ _ _ _ => bad 76, fun _ _ _ _ _ _ => bad 75⟩ (fun _ ih => ⟨callA P R idle ih, codeA P ih⟩) n
end
end Go.Ev
namespace Go.Ev
open Go
section
variable {α β : Type}
@[simp] theorem cif_eq (b : Bool) (x y : α) : cif b x y = if b = true then x else y := by cases b <;> rfl
@[simp] theorem natF_eq (n : Nat) (k : Nat → α) : natF n k = k n := by cases n <;> rfl
@[simp] theorem intF_eq (n : Int) (k : Int → α) : intF n k = k n := by cases n <;> simp [intF]
@[simp] theorem d8F_eq (d : D8) (k : D8 → α) : d8F d k = k d := by cases d <;> rfl
@[simp] theorem idF_eq (i : Id) (k : Id → α) : idF i k = k i := by cases i; simp [idF]
@[simp] theorem boolF_eq (b : Bool) (k : Bool → α) : boolF b k = k b := by cases b <;> rfl
@[simp] theorem bF_eq (b : Bool) (k : AV → Res) : bF b k = k (.b b) := by cases b <;> rfl
@[simp] theorem sF_eq (n c : Nat) (k : AV → Res) : sF n c k = k (.s n c) := by simp [sF]
@[simp] theorem nt_eq (b : Bool) : nt b = !b := by cases b <;> rfl
@[simp] theorem an_eq (a b : Bool) : an a b = (a && b) := by cases a <;> cases b <;> rfl
@[simp] theorem limF_eq (kd : IntKind) (k : Nat → α) : limF kd k = k (lim kd) := by simp [limF]
theorem g8_eq (d : D8) (k : ((β : Type) → T8 β → β) → α) : g8 d k = k fun _ t => t.at d := by cases d <;> rfl
theorem m8_eq (d : D8) (k : ((β : Type) → (β → β) → T8 β → T8 β) → α) : m8 d k = k fun _ z t => t.mod d z := by
  cases d <;> refine congrArg k (funext fun β => funext fun z => funext fun t => ?_) <;> cases t <;> rfl
theorem slG_eq (n : Nat) (k : O → α) : slG n k = k (getN n) := by simp only [slG, g8_eq]; rfl
theorem slM_eq (n : Nat) (k : St → α) : slM n k = k (putN n) := by simp only [slM, m8_eq]; rfl
@[simp] theorem avF_eq (v : AV) (k : AV → α) : avF v k = k v := by cases v <;> simp [avF]
theorem mapF_eq {γ δ : Type} (f : γ → (δ → α) → α) (g : γ → δ) : ∀ (l : List γ) (k : List δ → α), (∀ x ∈ l, ∀ k, f x k = k (g x)) → mapF l f k = k (l.map g)
  | [], _, _ => rfl
  | x :: r, k, h => by
    show f x (fun x => mapF r f fun r => k (x :: r)) = _
    rw [h x List.mem_cons_self, mapF_eq f g r _ fun y hy => h y (List.mem_cons_of_mem _ hy)]; rfl
theorem T8.at_put_self (t : T8 α) (d : D8) (x : α) : (t.put d x).at d = x := by cases t; cases d <;> rfl
theorem T8.at_put_ne (t : T8 α) {d e : D8} (x : α) (h : d ≠ e) : (t.put d x).at e = t.at e := by
  cases t; cases d <;> cases e <;> first | rfl | exact absurd rfl h
theorem dig_eq (n : Nat) (f : D8 → α) : dig n (f .a) (f .b) (f .c) (f .d) (f .e) (f .f) (f .g) (f .h) = f (dg n) := by
  match n with
  | 0 | 1 | 2 | 3 | 4 | 5 | 6 => rfl
  | n + 7 => rfl
theorem T8.nat_eq (t : T8 α) (n : Nat) : t.nat n = t.at (dg n) := dig_eq n t.at
theorem dg_inj {m n : Nat} (hm : m < 8) (hn : n < 8) (h : dg m = dg n) : m = n := by
  have key : ∀ k, k < 8 → d8n (dg k) = k := by
    intro k hk
    match k, hk with
    | 0, _ | 1, _ | 2, _ | 3, _ | 4, _ | 5, _ | 6, _ | 7, _ => rfl
  rw [← key m hm, ← key n hn, h]
end

/-! frames -/
theorem getN_putN_self (n : Nat) (v : AV) (F : Fr) : getN n (putN n v F) = v := by
  simp only [getN, putN, T8.mod, T8.at_put_self]
theorem getN_putN_ne {m n : Nat} (hm : m < 512) (hn : n < 512) (v : AV) (F : Fr) (h : n ≠ m) : getN m (putN n v F) = getN m F := by
  have h8 : ∀ x : Nat, x % 8 < 8 := fun x => Nat.mod_lt _ (by omega)
  have e1 : ∀ x : Nat, Nat.div x 64 = x / 64 := fun _ => rfl
  have e2 : ∀ x : Nat, Nat.mod (Nat.div x 8) 8 = x / 8 % 8 := fun _ => rfl
  have e3 : ∀ x : Nat, Nat.mod x 8 = x % 8 := fun _ => rfl
  simp only [getN, putN, T8.mod, e1, e2, e3]
  by_cases h1 : dg (n / 64) = dg (m / 64)
  · rw [h1, T8.at_put_self]
    have g1 : n / 64 = m / 64 := dg_inj (by omega) (by omega) h1
    by_cases h2 : dg (n / 8 % 8) = dg (m / 8 % 8)
    · rw [h2, T8.at_put_self]
      have g2 : n / 8 % 8 = m / 8 % 8 := dg_inj (h8 _) (h8 _) h2
      by_cases h3 : dg (n % 8) = dg (m % 8)
      · have g3 : n % 8 = m % 8 := dg_inj (h8 _) (h8 _) h3
        exact absurd (by omega) h
      · rw [T8.at_put_ne _ _ h3]
    · rw [T8.at_put_ne _ _ h2]
  · rw [T8.at_put_ne _ _ h1]

/-! the heap -/
theorem hat_hput_self (i : Id) (x : AObj) (t : HT) : hat i (hput i x t) = x := by
  simp only [hat, hput, hput2, hput3, hput4, hput5, T8.at_put_self]
theorem hat_hput_ne {i j : Id} (x : AObj) (t : HT) (h : i ≠ j) : hat j (hput i x t) = hat j t := by
  simp only [hat, hput, hput2, hput3, hput4, hput5]
  by_cases h1 : i.d1 = j.d1
  · rw [h1, T8.at_put_self]
    by_cases h2 : i.d2 = j.d2
    · rw [h2, T8.at_put_self]
      by_cases h3 : i.d3 = j.d3
      · rw [h3, T8.at_put_self]
        by_cases h4 : i.d4 = j.d4
        · rw [h4, T8.at_put_self]
          by_cases h5 : i.d5 = j.d5
          · exact absurd (by cases i; cases j; simp_all) h
          · rw [T8.at_put_ne _ _ h5]
        · rw [T8.at_put_ne _ _ h4]
      · rw [T8.at_put_ne _ _ h3]
    · rw [T8.at_put_ne _ _ h2]
  · rw [T8.at_put_ne _ _ h1]
theorem idOf_inj {m n : Nat} (hm : m < 32768) (hn : n < 32768) (h : idOf m = idOf n) : m = n := by
  have h8 : ∀ x : Nat, x % 8 < 8 := fun x => Nat.mod_lt _ (by omega)
  simp only [idOf, Id.mk.injEq] at h
  obtain ⟨h1, h2, h3, h4, h5⟩ := h
  have g1 : m / 4096 % 8 = n / 4096 % 8 := dg_inj (h8 _) (h8 _) h1
  have g2 : m / 512 % 8 = n / 512 % 8 := dg_inj (h8 _) (h8 _) h2
  have g3 : m / 64 % 8 = n / 64 % 8 := dg_inj (h8 _) (h8 _) h3
  have g4 : m / 8 % 8 = n / 8 % 8 := dg_inj (h8 _) (h8 _) h4
  have g5 : m % 8 = n % 8 := dg_inj (h8 _) (h8 _) h5
  omega

/-! rows of cells -/
def CT.room : CT → Nat
  | .r1 _ => 8
  | .r2 _ => 64
  | .r3 _ => 512
  | .r4 _ => 4096
theorem nat_put {α : Type} (t : T8 α) (x : α) {m n : Nat} (hm : m < 8) (hn : n < 8) : (t.put (dg n) x).nat m = if m = n then x else t.nat m := by
  rw [T8.nat_eq, T8.nat_eq]
  by_cases h : m = n
  · subst h; rw [T8.at_put_self, if_pos rfl]
  · rw [if_neg h, T8.at_put_ne _ _ fun e => h (dg_inj hn hm e).symm]
theorem div_eq (a b : Nat) : Nat.div a b = a / b := rfl
theorem mod_eq (a b : Nat) : Nat.mod a b = a % b := rfl
theorem g_put1 (t : T8 AV) (v : AV) {o p : Nat} (ho : o < 8) (hp : p < 8) : (put1 o v t).nat p = if p = o then v else t.nat p := by
  have e : o % 8 = o := Nat.mod_eq_of_lt ho
  simp only [put1, mod_eq, e, nat_put t v hp ho]
theorem put1_mod (t : T8 AV) (v : AV) (o : Nat) : put1 o v t = put1 (o % 8) v t := by simp only [put1, mod_eq, Nat.mod_mod]
theorem put2_mod (t : T8 (T8 AV)) (v : AV) (o : Nat) : put2 o v t = put2 (o % 64) v t := by
  have e1 : o % 64 / 8 % 8 = o / 8 % 8 := by omega
  have e2 : o % 64 % 8 = o % 8 := by omega
  simp only [put2, div_eq, mod_eq, e1]
  rw [put1_mod _ _ o, put1_mod _ _ (o % 64), e2]
theorem put3_mod (t : T8 (T8 (T8 AV))) (v : AV) (o : Nat) : put3 o v t = put3 (o % 512) v t := by
  have e1 : o % 512 / 64 % 8 = o / 64 % 8 := by omega
  have e2 : o % 512 % 64 = o % 64 := by omega
  simp only [put3, div_eq, mod_eq, e1]
  rw [put2_mod _ _ o, put2_mod _ _ (o % 512), e2]
theorem g_put2 (t : T8 (T8 AV)) (v : AV) {o p : Nat} (ho : o < 64) (hp : p < 64) :
    ((put2 o v t).nat (p / 8)).nat (p % 8) = if p = o then v else (t.nat (p / 8)).nat (p % 8) := by
  have e : o / 8 % 8 = o / 8 := by omega
  simp only [put2, div_eq, mod_eq, e]
  rw [nat_put _ _ (by omega) (by omega)]
  by_cases h : p / 8 = o / 8
  · rw [if_pos h, put1_mod, g_put1 _ _ (by omega) (by omega), h]
    by_cases h2 : p % 8 = o % 8
    · rw [if_pos h2, if_pos (by omega)]
    · rw [if_neg h2, if_neg (by omega)]
  · rw [if_neg h, if_neg (by omega)]
theorem g_put3 (t : T8 (T8 (T8 AV))) (v : AV) {o p : Nat} (ho : o < 512) (hp : p < 512) :
    (((put3 o v t).nat (p / 64)).nat (p / 8 % 8)).nat (p % 8) = if p = o then v else ((t.nat (p / 64)).nat (p / 8 % 8)).nat (p % 8) := by
  have e : o / 64 % 8 = o / 64 := by omega
  simp only [put3, div_eq, mod_eq, e]
  rw [nat_put _ _ (by omega) (by omega)]
  by_cases h : p / 64 = o / 64
  · rw [if_pos h, put2_mod]
    have k := g_put2 (t.nat (o / 64)) v (o := o % 64) (p := p % 64) (by omega) (by omega)
    have e1 : p % 64 / 8 = p / 8 % 8 := by omega
    have e2 : p % 64 % 8 = p % 8 := by omega
    rw [e1, e2] at k
    rw [k, h]
    by_cases h2 : p % 64 = o % 64
    · rw [if_pos h2, if_pos (by omega)]
    · rw [if_neg h2, if_neg (by omega)]
  · rw [if_neg h, if_neg (by omega)]
theorem g_put4 (t : T8 (T8 (T8 (T8 AV)))) (v : AV) {o p : Nat} (ho : o < 4096) (hp : p < 4096) :
    ((((put4 o v t).nat (p / 512)).nat (p / 64 % 8)).nat (p / 8 % 8)).nat (p % 8) = if p = o then v else (((t.nat (p / 512)).nat (p / 64 % 8)).nat (p / 8 % 8)).nat (p % 8) := by
  have e : o / 512 % 8 = o / 512 := by omega
  simp only [put4, div_eq, mod_eq, e]
  rw [nat_put _ _ (by omega) (by omega)]
  by_cases h : p / 512 = o / 512
  · rw [if_pos h, put3_mod]
    have k := g_put3 (t.nat (o / 512)) v (o := o % 512) (p := p % 512) (by omega) (by omega)
    have e1 : p % 512 / 64 = p / 64 % 8 := by omega
    have e2 : p % 512 / 8 % 8 = p / 8 % 8 := by omega
    have e3 : p % 512 % 8 = p % 8 := by omega
    rw [e1, e2, e3] at k
    rw [k, h]
    by_cases h2 : p % 512 = o % 512
    · rw [if_pos h2, if_pos (by omega)]
    · rw [if_neg h2, if_neg (by omega)]
  · rw [if_neg h, if_neg (by omega)]
theorem CT.room_set (o : Nat) (v : AV) (t : CT) : (t.set o v).room = t.room := by cases t <;> rfl
theorem CT.get_set (v : AV) (t : CT) {o p : Nat} (ho : o < t.room) (hp : p < t.room) : (t.set o v).get p = if p = o then v else t.get p := by
  cases t with
  | r1 t => exact g_put1 t v ho hp
  | r2 t => exact g_put2 t v ho hp
  | r3 t => exact g_put3 t v ho hp
  | r4 t => exact g_put4 t v ho hp
theorem CT.room_le (t : CT) : t.room ≤ 4096 ∧ 8 ≤ t.room := by cases t <;> simp [CT.room]
theorem all_nat {α : Type} (x : α) (n : Nat) : (T8.all x).nat n = x := by rw [T8.nat_eq]; cases dg n <;> rfl
theorem nat0 {α : Type} (a b c d e f g h : α) : (T8.mk a b c d e f g h).nat 0 = a := rfl
/-- A cell laid at a place, at most right behind those that are there. -/
theorem CT.ext_ok (v : AV) (t : CT) {o : Nat} (ho : o ≤ t.room) (h4 : o < 4096) :
    o < (t.ext o v).room ∧ t.room ≤ (t.ext o v).room ∧ ∀ p, p < t.room ∨ p = o → (t.ext o v).get p = if p = o then v else t.get p := by
  cases t with
  | r1 t =>
    simp only [CT.room] at ho
    by_cases h : o < 8
    · have e : (CT.r1 t).ext o v = .r1 (put1 o v t) := by simp only [CT.ext, cif_eq]; rw [if_pos (by simpa using (by omega : o ≤ 7))]
      rw [e]
      exact ⟨h, Nat.le_refl _, fun p hp => g_put1 t v h (hp.elim (fun x => x) fun x => by omega)⟩
    · have ho8 : o = 8 := by omega
      subst ho8
      have e : (CT.r1 t).ext 8 v = .r2 (put2 8 v ⟨t, u1, u1, u1, u1, u1, u1, u1⟩) := rfl
      rw [e]
      refine ⟨by simp [CT.room], by simp [CT.room], fun p hp => ?_⟩
      have hp64 : p < 64 := hp.elim (fun x => by simp only [CT.room] at x; omega) fun x => by omega
      refine (g_put2 _ v (by omega) hp64).trans ?_
      by_cases hp8 : p = 8
      · rw [if_pos hp8, if_pos hp8]
      · have hlt : p < 8 := hp.elim (fun x => x) fun x => absurd x hp8
        rw [if_neg hp8, if_neg hp8, show p / 8 = 0 by omega, show p % 8 = p by omega, nat0]; rfl
  | r2 t =>
    simp only [CT.room] at ho
    by_cases h : o < 64
    · have e : (CT.r2 t).ext o v = .r2 (put2 o v t) := by simp only [CT.ext, cif_eq]; rw [if_pos (by simpa using (by omega : o ≤ 63))]
      rw [e]
      exact ⟨h, Nat.le_refl _, fun p hp => g_put2 t v h (hp.elim (fun x => x) fun x => by omega)⟩
    · have ho8 : o = 64 := by omega
      subst ho8
      have e : (CT.r2 t).ext 64 v = .r3 (put3 64 v ⟨t, u2, u2, u2, u2, u2, u2, u2⟩) := rfl
      rw [e]
      refine ⟨by simp [CT.room], by simp [CT.room], fun p hp => ?_⟩
      have hp64 : p < 512 := hp.elim (fun x => by simp only [CT.room] at x; omega) fun x => by omega
      refine (g_put3 _ v (by omega) hp64).trans ?_
      by_cases hp8 : p = 64
      · rw [if_pos hp8, if_pos hp8]
      · have hlt : p < 64 := hp.elim (fun x => x) fun x => absurd x hp8
        rw [if_neg hp8, if_neg hp8, show p / 64 = 0 by omega, show p / 8 % 8 = p / 8 by omega, nat0]; rfl
  | r3 t =>
    simp only [CT.room] at ho
    by_cases h : o < 512
    · have e : (CT.r3 t).ext o v = .r3 (put3 o v t) := by simp only [CT.ext, cif_eq]; rw [if_pos (by simpa using (by omega : o ≤ 511))]
      rw [e]
      exact ⟨h, Nat.le_refl _, fun p hp => g_put3 t v h (hp.elim (fun x => x) fun x => by omega)⟩
    · have ho8 : o = 512 := by omega
      subst ho8
      have e : (CT.r3 t).ext 512 v = .r4 (put4 512 v ⟨t, u3, u3, u3, u3, u3, u3, u3⟩) := rfl
      rw [e]
      refine ⟨by simp [CT.room], by simp [CT.room], fun p hp => ?_⟩
      have hp64 : p < 4096 := hp.elim (fun x => by simp only [CT.room] at x; omega) fun x => by omega
      refine (g_put4 _ v (by omega) hp64).trans ?_
      by_cases hp8 : p = 512
      · rw [if_pos hp8, if_pos hp8]
      · have hlt : p < 512 := hp.elim (fun x => x) fun x => absurd x hp8
        rw [if_neg hp8, if_neg hp8, show p / 512 = 0 by omega, show p / 64 % 8 = p / 64 by omega, nat0]; rfl
  | r4 t => exact ⟨h4, Nat.le_refl _, fun p hp => g_put4 t v h4 (hp.elim (fun x => x) fun x => by omega)⟩
/-- A list laid from a place on. -/
theorem CT.lay_ok : ∀ (l : List AV) (o : Nat) (t : CT), o ≤ t.room → o + l.length ≤ 4096 →
    o + l.length ≤ (CT.lay l o t).room ∧ t.room ≤ (CT.lay l o t).room ∧ ∀ p, p < o + l.length → p < t.room ∨ o ≤ p → (CT.lay l o t).get p = if o ≤ p then l.getD (p - o) .u else t.get p
  | [], o, t, ho, _ => ⟨ho, Nat.le_refl _, fun p hp _ => by rw [if_neg (by simp at hp; omega)]; rfl⟩
  | v :: r, o, t, ho, h4 => by
    simp only [List.length_cons] at h4
    obtain ⟨e1, e2, e3⟩ := CT.ext_ok v t ho (by omega)
    obtain ⟨i1, i2, i3⟩ := CT.lay_ok r (o + 1) (t.ext o v) e1 (by omega)
    refine ⟨by simp only [List.length_cons]; exact (by omega : o + (r.length + 1) = o + 1 + r.length) ▸ i1, Nat.le_trans e2 i2, fun p hp hq => ?_⟩
    simp only [List.length_cons] at hp
    show (CT.lay r (o + 1) (t.ext o v)).get p = _
    by_cases h1 : o + 1 ≤ p
    · rw [i3 p (by omega) (.inr h1), if_pos h1, if_pos (by omega), show p - o = (p - (o + 1)) + 1 by omega, List.getD_cons_succ]
    · rw [i3 p (by omega) (.inl (by rcases hq with hq | hq <;> omega)), if_neg h1]
      rw [e3 p (hq.elim .inl fun x => .inr (by omega))]
      by_cases h2 : p = o
      · subst h2; rw [if_pos rfl, if_pos (Nat.le_refl _), Nat.sub_self]; rfl
      · rw [if_neg h2, if_neg (by omega)]
theorem setL_ok : ∀ (l : List AV) (o : Nat) (t : CT), o + l.length ≤ t.room →
    (setL l o t).room = t.room ∧ ∀ p, p < t.room → (setL l o t).get p = if o ≤ p ∧ p < o + l.length then l.getD (p - o) .u else t.get p
  | [], o, t, _ => ⟨rfl, fun p _ => by rw [if_neg (by simp only [List.length_nil]; omega)]; rfl⟩
  | v :: r, o, t, h => by
    simp only [List.length_cons] at h
    obtain ⟨i1, i2⟩ := setL_ok r (o + 1) (t.set o v) (by rw [CT.room_set]; omega)
    refine ⟨i1.trans (CT.room_set ..), fun p hp => ?_⟩
    show (setL r (o + 1) (t.set o v)).get p = _
    rw [i2 p (by rw [CT.room_set]; exact hp), CT.get_set v t (by omega) hp]
    simp only [List.length_cons]
    by_cases h1 : o + 1 ≤ p ∧ p < o + 1 + r.length
    · rw [if_pos h1, if_pos (by omega), show p - o = (p - (o + 1)) + 1 by omega, List.getD_cons_succ]
    · rw [if_neg h1]
      by_cases h2 : p = o
      · subst h2; rw [if_pos rfl, if_pos (by omega), Nat.sub_self]; rfl
      · rw [if_neg h2, if_neg (by omega)]
theorem cells_eq : ∀ (n o : Nat) (t : CT), t.cells n o = (List.range n).map fun j => t.get (o + j)
  | 0, _, _ => rfl
  | n + 1, o, t => by
    show t.get o :: t.cells n (o + 1) = _
    rw [cells_eq n (o + 1) t, List.range_succ_eq_map]
    simp only [List.map_cons, List.map_map, Nat.add_zero, List.cons.injEq, true_and]
    refine List.map_congr_left fun j _ => ?_
    simp only [Function.comp, Nat.succ_eq_add_one]
    rw [show o + 1 + j = o + (j + 1) by omega]
/-! the tables: the first 64 blocks -/
noncomputable def isA (d : D8) : Bool := D8.rec (motive := fun _ => Bool) true false false false false false false false d
noncomputable def inBr (b : Id) : Bool := Id.rec (motive := fun _ => Bool) (fun d1 d2 d3 _ _ => an (isA d1) (an (isA d2) (isA d3))) b
end Go.Ev
