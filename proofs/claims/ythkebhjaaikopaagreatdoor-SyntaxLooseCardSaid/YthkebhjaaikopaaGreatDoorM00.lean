/- Part of the proof of SyntaxLooseCardSaid (A B C D E ZU). -/
set_option maxHeartbeats 8000000
set_option linter.unusedVariables false
namespace Go.Proofs.YthkebhjaaikopaaGreatDoor
structure KT where
 kind : Int
 text : ByteArray
 n : Int
instance : Inhabited KT := ⟨⟨0, ByteArray.empty, 0⟩⟩
structure Nd where
 kind : Int
 pos : Nat
 text : ByteArray
 n : Int
 kids : List Int
instance : Inhabited Nd := ⟨⟨0, 0, ByteArray.empty, 0, []⟩⟩
structure St where
 i : Nat
 tree : List Nd
 deep : Int
 mid : Bool
inductive R (α : Type) where
 | ok (a : α) (s : St)
 | err (c : Int) (p : Nat)
 | stuck
def Pm (α : Type) := St → R α
def Pm.ret {α : Type} (a : α) : Pm α := fun s => .ok a s
def R.next {α β : Type} (r : R α) (f : α → St → R β) : R β :=
 match r with
 | .ok a s => f a s
 | .err c p => .err c p
 | .stuck => .stuck
def Pm.bind {α β : Type} (p : Pm α) (f : α → Pm β) : Pm β := fun s => (p s).next fun a s' => f a s'
instance : Monad Pm where
 pure := Pm.ret
 bind := Pm.bind
def ej (a b : ByteArray) : Bool := decide (a = b)
def fs (l : List ByteArray) (t : ByteArray) : Bool := l.any fun a => ej a t
def nF (s : ByteArray) : Bool := (97 ≤ (s.data.getD 0 0 ||| 32) && (s.data.getD 0 0 ||| 32) ≤ 122) || s.data.getD 0 0 == 95
def iL (s : ByteArray) : Int := if nF s then 1 else 4
def bE : List ByteArray := [(⟨#[97, 99, 116, 105, 118, 101]⟩ : ByteArray), (⟨#[97, 115, 115, 101, 114, 116]⟩ : ByteArray), (⟨#[97, 116, 111, 109, 105, 99]⟩ : ByteArray), (⟨#[98, 105, 116]⟩ : ByteArray), (⟨#[98, 111, 111, 108]⟩ : ByteArray), (⟨#[98, 114, 101, 97, 107]⟩ : ByteArray), (⟨#[98, 121, 116, 101]⟩ : ByteArray), (⟨#[99, 104, 97, 110]⟩ : ByteArray), (⟨#[100, 95, 115, 116, 101, 112]⟩ : ByteArray), (⟨#[100, 111]⟩ : ByteArray), (⟨#[101, 108, 115, 101]⟩ : ByteArray), (⟨#[101, 109, 112, 116, 121]⟩ : ByteArray), (⟨#[101, 110, 97, 98, 108, 101, 100]⟩ : ByteArray), (⟨#[101, 118, 97, 108]⟩ : ByteArray), (⟨#[102, 97, 108, 115, 101]⟩ : ByteArray), (⟨#[102, 105]⟩ : ByteArray), (⟨#[102, 111, 114]⟩ : ByteArray), (⟨#[102, 117, 108, 108]⟩ : ByteArray), (⟨#[103, 111, 116, 111]⟩ : ByteArray), (⟨#[104, 105, 100, 100, 101, 110]⟩ : ByteArray), (⟨#[105, 102]⟩ : ByteArray), (⟨#[105, 110]⟩ : ByteArray), (⟨#[105, 110, 105, 116]⟩ : ByteArray), (⟨#[105, 110, 108, 105, 110, 101]⟩ : ByteArray), (⟨#[105, 110, 116]⟩ : ByteArray), (⟨#[108, 101, 110]⟩ : ByteArray), (⟨#[108, 111, 99, 97, 108]⟩ : ByteArray), (⟨#[109, 116, 121, 112, 101]⟩ : ByteArray), (⟨#[110, 101, 109, 112, 116, 121]⟩ : ByteArray), (⟨#[110, 101, 118, 101, 114]⟩ : ByteArray), (⟨#[110, 102, 117, 108, 108]⟩ : ByteArray), (⟨#[110, 112, 95]⟩ : ByteArray), (⟨#[111, 100]⟩ : ByteArray), (⟨#[111, 102]⟩ : ByteArray), (⟨#[112, 99, 95, 118, 97, 108, 117, 101]⟩ : ByteArray), (⟨#[112, 105, 100]⟩ : ByteArray), (⟨#[112, 114, 105, 110, 116, 102]⟩ : ByteArray), (⟨#[112, 114, 105, 110, 116, 109]⟩ : ByteArray), (⟨#[112, 114, 105, 111, 114, 105, 116, 121]⟩ : ByteArray), (⟨#[112, 114, 111, 99, 116, 121, 112, 101]⟩ : ByteArray), (⟨#[112, 114, 111, 118, 105, 100, 101, 100]⟩ : ByteArray), (⟨#[114, 117, 110]⟩ : ByteArray), (⟨#[115, 101, 108, 101, 99, 116]⟩ : ByteArray), (⟨#[115, 104, 111, 114, 116]⟩ : ByteArray), (⟨#[115, 104, 111, 119]⟩ : ByteArray), (⟨#[115, 107, 105, 112]⟩ : ByteArray), (⟨#[116, 105, 109, 101, 111, 117, 116]⟩ : ByteArray), (⟨#[116, 114, 117, 101]⟩ : ByteArray), (⟨#[116, 121, 112, 101, 100, 101, 102]⟩ : ByteArray), (⟨#[117, 110, 108, 101, 115, 115]⟩ : ByteArray), (⟨#[117, 110, 115, 105, 103, 110, 101, 100]⟩ : ByteArray), (⟨#[120, 114]⟩ : ByteArray), (⟨#[120, 115]⟩ : ByteArray), (⟨#[95]⟩ : ByteArray), (⟨#[95, 108, 97, 115, 116]⟩ : ByteArray), (⟨#[95, 110, 114, 95, 112, 114]⟩ : ByteArray), (⟨#[95, 112, 105, 100]⟩ : ByteArray)]
def cz : List ByteArray := [(⟨#[98, 105, 116]⟩ : ByteArray), (⟨#[98, 111, 111, 108]⟩ : ByteArray), (⟨#[98, 121, 116, 101]⟩ : ByteArray), (⟨#[115, 104, 111, 114, 116]⟩ : ByteArray), (⟨#[105, 110, 116]⟩ : ByteArray), (⟨#[117, 110, 115, 105, 103, 110, 101, 100]⟩ : ByteArray), (⟨#[109, 116, 121, 112, 101]⟩ : ByteArray), (⟨#[112, 105, 100]⟩ : ByteArray), (⟨#[99, 104, 97, 110]⟩ : ByteArray)]
def cJ : List ByteArray := [(⟨#[104, 105, 100, 100, 101, 110]⟩ : ByteArray), (⟨#[115, 104, 111, 119]⟩ : ByteArray), (⟨#[108, 111, 99, 97, 108]⟩ : ByteArray)]
def az : Nat → List ByteArray
 | 0 => [(⟨#[124, 124]⟩ : ByteArray)]
 | 1 => [(⟨#[38, 38]⟩ : ByteArray)]
 | 2 => [(⟨#[124]⟩ : ByteArray)]
 | 3 => [(⟨#[94]⟩ : ByteArray)]
 | 4 => [(⟨#[38]⟩ : ByteArray)]
 | 5 => [(⟨#[61, 61]⟩ : ByteArray), (⟨#[33, 61]⟩ : ByteArray)]
 | 6 => [(⟨#[60]⟩ : ByteArray), (⟨#[60, 61]⟩ : ByteArray), (⟨#[62]⟩ : ByteArray), (⟨#[62, 61]⟩ : ByteArray)]
 | 7 => [(⟨#[60, 60]⟩ : ByteArray), (⟨#[62, 62]⟩ : ByteArray)]
 | 8 => [(⟨#[43]⟩ : ByteArray), (⟨#[45]⟩ : ByteArray)]
 | _ => [(⟨#[42]⟩ : ByteArray), (⟨#[47]⟩ : ByteArray), (⟨#[37]⟩ : ByteArray)]
def ef : Nat → Int
 | 0 => 23
 | 1 => 22
 | 2 => 21
 | 3 => 20
 | 4 => 19
 | 5 => 17
 | 6 => 13
 | 7 => 11
 | 8 => 9
 | _ => 6
def fW : List (ByteArray × Int) := [((⟨#[95, 112, 105, 100]⟩ : ByteArray), 31), ((⟨#[95, 108, 97, 115, 116]⟩ : ByteArray), 32), ((⟨#[95, 110, 114, 95, 112, 114]⟩ : ByteArray), 33), ((⟨#[110, 112, 95]⟩ : ByteArray), 34), ((⟨#[116, 105, 109, 101, 111, 117, 116]⟩ : ByteArray), 35)]
def eJ : List (ByteArray × Int) := [((⟨#[108, 101, 110]⟩ : ByteArray), 25), ((⟨#[102, 117, 108, 108]⟩ : ByteArray), 26), ((⟨#[101, 109, 112, 116, 121]⟩ : ByteArray), 27), ((⟨#[110, 102, 117, 108, 108]⟩ : ByteArray), 28), ((⟨#[110, 101, 109, 112, 116, 121]⟩ : ByteArray), 29), ((⟨#[101, 110, 97, 98, 108, 101, 100]⟩ : ByteArray), 36), ((⟨#[112, 99, 95, 118, 97, 108, 117, 101]⟩ : ByteArray), 37)]
def gv (l : List (ByteArray × Int)) (t : ByteArray) : Int := ((l.find? fun p => ej p.1 t).map (·.2)).getD 0
def bh (t : ByteArray) : List ByteArray → Option Nat
 | [] => none
 | a :: l => if ej a t then some 0 else (bh t l).map (· + 1)
section
variable (K : List KT)
def tok (i : Nat) : KT := K.getD i default
def bH (s : St) (n : Nat) : Nat := s.i + min n (K.length - s.i - 1)
def aJ (n : Nat) (t : ByteArray) (s : St) : Bool := (tok K (bH K s n)).kind == iL t && ej (tok K (bH K s n)).text t
def cO (i : Nat) : Bool := (tok K i).kind == 1 && !fs bE (tok K i).text
def cZ (n : Nat) (s : St) : Bool := cO K (bH K s n)
def aH (s : St) : St := if s.i + 1 < K.length then { s with i := s.i + 1 } else s
def bN (s : St) : List ByteArray → Option Nat
 | [] => none
 | a :: l => if aJ K 0 a s then some 0 else (bN s l).map (· + 1)
def takes (l : List ByteArray) : Pm (Option Nat) := fun s => match bN K s l with
 | some i => .ok (some i) (aH K s)
 | none => .ok none s
def take1 (t : ByteArray) : Pm Bool := fun s => if aJ K 0 t s then .ok true (aH K s) else .ok false s
def tU {α : Type} : Pm α := fun s => .err 9 s.i
def must (t : ByteArray) : Pm Unit := fun s => if aJ K 0 t s then .ok () (aH K s) else .err 9 s.i
def here : Pm Nat := fun s => .ok s.i s
def next : Pm Nat := fun s => .ok s.i (aH K s)
def asks (f : St → Bool) : Pm Bool := fun s => .ok (f s) s
def ident : Pm Nat := fun s => if cZ K 0 s then .ok s.i (aH K s) else .err 9 s.i
def num (lo hi : Int) : Pm Int := fun s => if (tok K s.i).kind ≠ 2 ∨ (tok K s.i).n < lo ∨ hi < (tok K s.i).n then .err 9 s.i else .ok (tok K s.i).n (aH K s)
def fA : Pm Int := num K (-9223372036854775808) 9223372036854775807
def some1 : Pm Int := fun s => if (tok K s.i).n = 0 then .err 9 s.i else fA K s
def put (t : Nat) (kind : Int) (text : ByteArray) (n : Int) (kids : List Int) : Pm Int := fun s => if s.tree.length = 16384 then .err 8 t else .ok s.tree.length { s with tree := s.tree ++ [⟨kind, t, text, n, kids⟩] }
def within (p : Pm Int) : Pm Int := fun s => if 64 ≤ s.deep then .err 7 s.i else (p { s with deep := s.deep + 1 }).next fun k s' => .ok k { s' with deep := s'.deep - 1 }
def plainly (mid : Bool) (p : Pm Int) : Pm Int := fun s => (p { s with mid := mid }).next fun k s' => .ok k { s' with mid := s.mid }
def nodeAt (k : Int) : Pm Nd := fun s => .ok (s.tree.getD k.toNat default) s
def hP (k : Nat) : Pm Unit := fun s => .ok () { s with tree := s.tree.take k }
inductive gA where
 | expr | inner | typ | ref | inn | mt
 | var (kind : Int)
structure cT where
 bin : Nat → Pm Int
 binL : Nat → Int → Pm Int
 unary : Pm Int
 ref : Pm Int
 inn : Pm Int
 seq : Pm Int
 stmt : Pm Int
 listL : gA → List Int → Pm (List Int)
 partL : Bool → Pm Bool
 seqL : List Int → Pm (List Int)
 optsL : ByteArray → List Int → Pm (List Int)
 declsL : ByteArray → List Int → Pm (List Int)
 printL : List Int → Pm (List Int)
 modL : List Int → Pm (List Int)
variable (r : cT)
def expr : Pm Int := r.bin 0
def inner : Pm Int := plainly false (expr r)
def binF (n : Nat) : Pm Int :=
 if n = 10 then within r.unary
 else do
  let a ← r.bin (n + 1)
  r.binL n a
def binLF (n : Nat) (a : Int) : Pm Int := do
 let t ← here
 match (if (tok K t).kind = 4 then bh (tok K t).text (az n) else none) with
 | none => pure a
 | some i => do
   let _ ← next K
   let b ← r.bin (n + 1)
   let c ← put t 4 (⟨#[]⟩ : ByteArray) (ef n + i) [a, b]
   r.binL n c
def typ : Pm Int := do
 let t ← here
 match ← takes K cz with
 | some i => put t 23 (⟨#[]⟩ : ByteArray) (i + 1) []
 | none => do
   let d ← ident K
   put t 23 (tok K d).text 10 []
def channel : Pm Int := do
 let t ← here
 must K (⟨#[91]⟩ : ByteArray)
 let n ← fA K
 must K (⟨#[93]⟩ : ByteArray)
 must K (⟨#[111, 102]⟩ : ByteArray)
 must K (⟨#[123]⟩ : ByteArray)
 let k ← typ K
 let l ← r.listL .typ [k]
 must K (⟨#[125]⟩ : ByteArray)
 put t 24 (⟨#[]⟩ : ByteArray) n l
def initOf (kind : Int) : Pm (List Int) := do
 if ← take1 K (⟨#[61]⟩ : ByteArray) then
  if kind = 9 then do
   let k ← channel K r
   pure [k]
  else do
   let k ← expr r
   pure [k]
 else pure []
def sizeOf (kind : Int) : Pm Int := do
 if kind = 6 then do
  must K (⟨#[58]⟩ : ByteArray)
  some1 K
 else do
  if ← take1 K (⟨#[91]⟩ : ByteArray) then do
   let n ← some1 K
   must K (⟨#[93]⟩ : ByteArray)
   pure n
  else pure 0
def variable1 (kind : Int) : Pm Int := do
 let t ← ident K
 let n ← sizeOf K kind
 let l ← initOf K r kind
 put t 22 (tok K t).text n l
def mt : Pm Int := do
 let s ← ident K
 put s 66 (tok K s).text 0 []
def one : gA → Pm Int
 | .expr => expr r
 | .inner => inner r
 | .typ => typ K
 | .ref => r.ref
 | .inn => r.inn
 | .mt => mt K
 | .var k => variable1 K r k
def list (o : gA) : Pm (List Int) := do
 let k ← one K r o
 r.listL o [k]
def listLF (o : gA) (l : List Int) : Pm (List Int) := do
 if ← take1 K (⟨#[44]⟩ : ByteArray) then do
  let k ← one K r o
  r.listL o (l ++ [k])
 else pure l
def braced (p : Pm Int) : Pm Int := do
 must K (⟨#[40]⟩ : ByteArray)
 let k ← p
 must K (⟨#[41]⟩ : ByteArray)
 pure k
def pack (first more : gA) : Pm (List Int) := do
 let k ← one K r first
 match ← takes K [(⟨#[40]⟩ : ByteArray), (⟨#[44]⟩ : ByteArray)] with
 | some 0 => do
   let l ← list K r more
   must K (⟨#[41]⟩ : ByteArray)
   pure (k :: l)
 | some _ => do
   let l ← list K r first
   pure (k :: l)
 | none => pure [k]
def ins : Pm (List Int) := pack K r .inn .inn
def outs : Pm (List Int) := pack K r .expr .inner
def eI (s : St) : Int := if aJ K 0 (⟨#[63]⟩ : ByteArray) s then 0 else if aJ K 0 (⟨#[63, 63]⟩ : ByteArray) s then 1 else -1
def asked : Pm Int := fun s => .ok (eI K s) s
def refF : Pm Int := do
 let t ← ident K
 let a ← (do
  if ← take1 K (⟨#[91]⟩ : ByteArray) then do
   let k ← inner r
   must K (⟨#[93]⟩ : ByteArray)
   pure (some k)
  else pure none)
 let b ← (do
  if ← take1 K (⟨#[46]⟩ : ByteArray) then do
   let k ← r.ref
   pure (some k)
  else pure none)
 put t 2 (tok K t).text ((if a.isSome then 1 else 0) + (if b.isSome then 2 else 0)) (a.toList ++ b.toList)
def round (t : Nat) : Pm Int := do
 let a ← inner r
 if ← take1 K (⟨#[45, 62]⟩ : ByteArray) then do
  let b ← plainly true (expr r)
  must K (⟨#[58]⟩ : ByteArray)
  let c ← inner r
  must K (⟨#[41]⟩ : ByteArray)
  put t 5 (⟨#[]⟩ : ByteArray) 0 [a, b, c]
 else do
  must K (⟨#[41]⟩ : ByteArray)
  pure a
def named : Pm Int := do
 let t ← here
 let a ← r.ref
 let n ← nodeAt a
 let re ← asks fun s => n.n == 1 && (aJ K 0 (⟨#[64]⟩ : ByteArray) s || aJ K 0 (⟨#[58]⟩ : ByteArray) s && !s.mid)
 if re then do
  hP a.toNat
  let m ← next K
  if ej (tok K m).text (⟨#[64]⟩ : ByteArray) then do
   let s ← ident K
   let k ← put s 66 (tok K s).text 0 []
   put t 10 (tok K t).text 0 [n.kids.getD 0 0, k]
  else do
   let k ← r.ref
   put t 11 (tok K t).text 0 [n.kids.getD 0 0, k]
 else do
  let i ← asked K
  if 0 ≤ i then do
   let _ ← next K
   must K (⟨#[91]⟩ : ByteArray)
   let l ← ins K r
   must K (⟨#[93]⟩ : ByteArray)
   put t 7 (⟨#[]⟩ : ByteArray) i (a :: l)
  else pure a
def word (t : Nat) : Pm Int := do
 match ← takes K [(⟨#[40]⟩ : ByteArray), (⟨#[114, 117, 110]⟩ : ByteArray)] with
 | some 0 => round K r t
 | some _ => do
   let d ← ident K
   must K (⟨#[40]⟩ : ByteArray)
   let l ← (do
    if ← take1 K (⟨#[41]⟩ : ByteArray) then pure []
    else do
     let l ← list K r .inner
     must K (⟨#[41]⟩ : ByteArray)
     pure l)
   put t 12 (tok K d).text 0 l
 | none => tU
def unaryF : Pm Int := do
 let t ← here
 match ← takes K [(⟨#[45]⟩ : ByteArray), (⟨#[33]⟩ : ByteArray), (⟨#[126]⟩ : ByteArray)] with
 | some i => do
   let a ← within r.unary
   put t 3 (⟨#[]⟩ : ByteArray) (3 + i) [a]
 | none =>
   if (tok K t).kind = 2 then do
    let _ ← next K
    put t 1 (⟨#[]⟩ : ByteArray) (tok K t).n []
   else if cO K t then named K r
   else do
    match ← takes K [(⟨#[102, 97, 108, 115, 101]⟩ : ByteArray), (⟨#[116, 114, 117, 101]⟩ : ByteArray), (⟨#[115, 107, 105, 112]⟩ : ByteArray)] with
    | some i => put t 1 (⟨#[]⟩ : ByteArray) (min i 1) []
    | none =>
      if (tok K t).kind = 1 ∧ 0 < gv fW (tok K t).text then do
       let _ ← next K
       put t 8 (⟨#[]⟩ : ByteArray) (gv fW (tok K t).text) []
      else if (tok K t).kind = 1 ∧ 0 < gv eJ (tok K t).text then do
       let _ ← next K
       if gv eJ (tok K t).text = 36 ∨ gv eJ (tok K t).text = 37 then do
        let a ← braced K (inner r)
        put t 9 (⟨#[]⟩ : ByteArray) (gv eJ (tok K t).text) [a]
       else do
        let a ← braced K r.ref
        put t 6 (⟨#[]⟩ : ByteArray) (gv eJ (tok K t).text) [a]
      else word K r t
def innF : Pm Int := do
 let t ← here
 match ← takes K [(⟨#[101, 118, 97, 108]⟩ : ByteArray), (⟨#[95]⟩ : ByteArray), (⟨#[102, 97, 108, 115, 101]⟩ : ByteArray), (⟨#[116, 114, 117, 101]⟩ : ByteArray), (⟨#[45]⟩ : ByteArray)] with
 | some 0 => do
   let a ← braced K (inner r)
   put t 13 (⟨#[]⟩ : ByteArray) 0 [a]
 | some 1 => put t 14 (⟨#[]⟩ : ByteArray) 0 []
 | some 2 => put t 1 (⟨#[]⟩ : ByteArray) 0 []
 | some 3 => put t 1 (⟨#[]⟩ : ByteArray) 1 []
 | some _ => do
   let n ← fA K
   put t 1 (⟨#[]⟩ : ByteArray) (if n = -9223372036854775808 then n else -n) []
 | none =>
   if (tok K t).kind = 2 then do
    let _ ← next K
    put t 1 (⟨#[]⟩ : ByteArray) (tok K t).n []
   else r.ref
def dA (s : St) : Bool := (tok K s.i).kind == 1 && (fs cz (tok K s.i).text || (fs cJ (tok K s.i).text || (cZ K 0 s && cZ K 1 s)))
def decl : Pm Int := do
 let t ← here
 let w ← takes K cJ
 let ty ← typ K
 let n ← nodeAt ty
 let l ← list K r (.var n.n)
 put t 21 (⟨#[]⟩ : ByteArray) (match w with | some i => (i : Int) + 1 | none => 0) (ty :: l)
def declsLF (e : ByteArray) (l : List Int) : Pm (List Int) := do
 if ← take1 K (⟨#[59]⟩ : ByteArray) then do
  let z ← asks (aJ K 0 e)
  if z then pure l
  else do
   let k ← decl K r
   r.declsL e (l ++ [k])
 else pure l
def decls (e : ByteArray) : Pm (List Int) := do
 let k ← decl K r
 let l ← r.declsL e [k]
 must K e
 pure l
def block : Pm Int := do
 must K (⟨#[123]⟩ : ByteArray)
 let k ← r.seq
 must K (⟨#[125]⟩ : ByteArray)
 pure k
def partLF (b : Bool) : Pm Bool := do
 match ← takes K [(⟨#[59]⟩ : ByteArray), (⟨#[45, 62]⟩ : ByteArray)] with
 | some _ => r.partL true
 | none => pure b
def step : Pm Int := do
 let t ← here
 let b ← asks (dA K)
 if b then decl K r
 else do
  match ← takes K [(⟨#[120, 114]⟩ : ByteArray), (⟨#[120, 115]⟩ : ByteArray)] with
  | some i => do
    let l ← list K r .ref
    put t 50 (⟨#[]⟩ : ByteArray) i l
  | none => do
    let a ← within r.stmt
    if ← take1 K (⟨#[117, 110, 108, 101, 115, 115]⟩ : ByteArray) then do
     let b ← within r.stmt
     put t 49 (⟨#[]⟩ : ByteArray) 0 [a, b]
    else pure a
def dY (s : St) : Bool := aJ K 0 (⟨#[125]⟩ : ByteArray) s || (aJ K 0 (⟨#[58, 58]⟩ : ByteArray) s || (aJ K 0 (⟨#[102, 105]⟩ : ByteArray) s || aJ K 0 (⟨#[111, 100]⟩ : ByteArray) s))
def seqLF (l : List Int) : Pm (List Int) := do
 let k ← step K r
 let j ← here
 let p ← r.partL false
 let e ← asks (dY K)
 if e || (!p && ((tok K (j - 1)).kind != 4 || !ej (tok K (j - 1)).text (⟨#[125]⟩ : ByteArray))) then pure (l ++ [k])
 else r.seqL (l ++ [k])
def seqF : Pm Int := do
 let t ← here
 let l ← r.seqL []
 put t 20 (⟨#[]⟩ : ByteArray) 0 l
def optsLF (e : ByteArray) (l : List Int) : Pm (List Int) := do
 let z ← (if l.isEmpty then pure false else take1 K e)
 if z then pure l
 else do
  must K (⟨#[58, 58]⟩ : ByteArray)
  let k ← r.seq
  r.optsL e (l ++ [k])
def span (a : Int) : Pm (List Int) := do
 must K (⟨#[58]⟩ : ByteArray)
 let b ← expr r
 must K (⟨#[46, 46]⟩ : ByteArray)
 let c ← expr r
 pure [a, b, c]
def loop1 : Pm (Int × List Int) := do
 must K (⟨#[40]⟩ : ByteArray)
 let a ← r.ref
 let x ← (do
  if ← take1 K (⟨#[105, 110]⟩ : ByteArray) then do
   let b ← r.ref
   pure (33, [a, b])
  else do
   let l ← span K r a
   pure (32, l))
 must K (⟨#[41]⟩ : ByteArray)
 let b ← block K r
 pure (x.1, x.2 ++ [b])
def printLF (l : List Int) : Pm (List Int) := do
 if ← take1 K (⟨#[44]⟩ : ByteArray) then do
  let k ← inner r
  r.printL (l ++ [k])
 else pure l
def printed : Pm (ByteArray × List Int) := do
 must K (⟨#[40]⟩ : ByteArray)
 let t ← here
 if (tok K t).kind = 3 then do
  let _ ← next K
  let l ← r.printL []
  must K (⟨#[41]⟩ : ByteArray)
  pure ((tok K t).text, l)
 else tU
def recv (t : Nat) (a i : Int) : Pm Int := do
 let _ ← next K
 if ← take1 K (⟨#[60]⟩ : ByteArray) then do
  let l ← ins K r
  must K (⟨#[62]⟩ : ByteArray)
  put t 39 (⟨#[]⟩ : ByteArray) (i + 2) (a :: l)
 else do
  let l ← ins K r
  put t 39 (⟨#[]⟩ : ByteArray) i (a :: l)
def effect (t : Nat) : Pm Int := do
 let c ← asks (aJ K 1 (⟨#[58]⟩ : ByteArray))
 if c then do
  let _ ← next K
  let _ ← next K
  let k ← within r.stmt
  put t 45 (tok K t).text 0 [k]
 else fun s0 => (do
  let a ← r.ref
  let i ← asked K
  let o ← asks (aJ K 1 (⟨#[91]⟩ : ByteArray))
  if 0 ≤ i && !o then recv K r t a i
  else do
   match ← takes K [(⟨#[61]⟩ : ByteArray), (⟨#[43, 43]⟩ : ByteArray), (⟨#[45, 45]⟩ : ByteArray), (⟨#[33]⟩ : ByteArray), (⟨#[33, 33]⟩ : ByteArray)] with
   | some 0 => do
     let k ← expr r
     put t 40 (⟨#[]⟩ : ByteArray) 0 [a, k]
   | some 1 => put t 41 (⟨#[]⟩ : ByteArray) 1 [a]
   | some 2 => put t 41 (⟨#[]⟩ : ByteArray) (-1) [a]
   | some 3 => do
     let l ← outs K r
     put t 38 (⟨#[]⟩ : ByteArray) 0 (a :: l)
   | some _ => do
     let l ← outs K r
     put t 38 (⟨#[]⟩ : ByteArray) 1 (a :: l)
   | none => fun s1 => (do
     let k ← expr r
     put t 48 (⟨#[]⟩ : ByteArray) 0 [k] : Pm Int) { s1 with i := s0.i, tree := s1.tree.take s0.tree.length } : Pm Int) s0
def stmtF : Pm Int := do
 let t ← here
 if cO K t then effect K r t
 else do
  let z ← asks (aJ K 0 (⟨#[123]⟩ : ByteArray))
  if z then do
   let k ← block K r
   put t 37 (⟨#[]⟩ : ByteArray) 0 [k]
  else do
   match ← takes K [(⟨#[105, 102]⟩ : ByteArray), (⟨#[100, 111]⟩ : ByteArray), (⟨#[102, 111, 114]⟩ : ByteArray), (⟨#[115, 101, 108, 101, 99, 116]⟩ : ByteArray), (⟨#[97, 116, 111, 109, 105, 99]⟩ : ByteArray), (⟨#[100, 95, 115, 116, 101, 112]⟩ : ByteArray), (⟨#[101, 108, 115, 101]⟩ : ByteArray), (⟨#[98, 114, 101, 97, 107]⟩ : ByteArray), (⟨#[103, 111, 116, 111]⟩ : ByteArray), (⟨#[112, 114, 105, 110, 116, 102]⟩ : ByteArray), (⟨#[112, 114, 105, 110, 116, 109]⟩ : ByteArray), (⟨#[97, 115, 115, 101, 114, 116]⟩ : ByteArray)] with
   | some 0 => do
     let l ← r.optsL (⟨#[102, 105]⟩ : ByteArray) []
     put t 30 (⟨#[]⟩ : ByteArray) 0 l
   | some 1 => do
     let l ← r.optsL (⟨#[111, 100]⟩ : ByteArray) []
     put t 31 (⟨#[]⟩ : ByteArray) 0 l
   | some 2 => do
     let x ← loop1 K r
     put t x.1 (⟨#[]⟩ : ByteArray) 0 x.2
   | some 3 => do
     must K (⟨#[40]⟩ : ByteArray)
     let a ← r.ref
     let l ← span K r a
     must K (⟨#[41]⟩ : ByteArray)
     put t 34 (⟨#[]⟩ : ByteArray) 0 l
   | some 4 => do
     let k ← block K r
     put t 35 (⟨#[]⟩ : ByteArray) 0 [k]
   | some 5 => do
     let k ← block K r
     put t 36 (⟨#[]⟩ : ByteArray) 0 [k]
   | some 6 => put t 42 (⟨#[]⟩ : ByteArray) 0 []
   | some 7 => put t 43 (⟨#[]⟩ : ByteArray) 0 []
   | some 8 => do
     let d ← ident K
     put t 44 (tok K d).text 0 []
   | some 9 => do
     let x ← printed K r
     put t 46 x.1 0 x.2
   | some 10 => do
     let a ← braced K (inner r)
     put t 46 (⟨#[]⟩ : ByteArray) 1 [a]
   | some _ => do
     let k ← expr r
     put t 47 (⟨#[]⟩ : ByteArray) 0 [k]
   | none => do
     let k ← expr r
     put t 48 (⟨#[]⟩ : ByteArray) 0 [k]
def head (l : List Int) : Pm Int := do
 let t ← here
 let n ← (do
  if ← take1 K (⟨#[112, 114, 105, 111, 114, 105, 116, 121]⟩ : ByteArray) then num K 1 255
  else pure 0)
 put t 62 (⟨#[]⟩ : ByteArray) n l
def count1 : Pm Int := do
 if ← take1 K (⟨#[97, 99, 116, 105, 118, 101]⟩ : ByteArray) then do
  if ← take1 K (⟨#[91]⟩ : ByteArray) then do
   let n ← num K 1 255
   must K (⟨#[93]⟩ : ByteArray)
   pure n
  else pure 1
 else pure 0
def proctype (t : Nat) : Pm Int := do
 let n ← count1 K
 must K (⟨#[112, 114, 111, 99, 116, 121, 112, 101]⟩ : ByteArray)
 let d ← ident K
 must K (⟨#[40]⟩ : ByteArray)
 let l ← (do
  if ← take1 K (⟨#[41]⟩ : ByteArray) then pure []
  else decls K r (⟨#[41]⟩ : ByteArray))
 let h ← head K l
 let p ← (do
  if ← take1 K (⟨#[112, 114, 111, 118, 105, 100, 101, 100]⟩ : ByteArray) then do
   let a ← braced K (inner r)
   pure [h, a]
  else pure [h])
 let b ← block K r
 put t 61 (tok K d).text n (p ++ [b])
def modul : Pm Int := do
 let t ← here
 let m ← asks fun s => aJ K 0 (⟨#[109, 116, 121, 112, 101]⟩ : ByteArray) s && (aJ K 1 (⟨#[123]⟩ : ByteArray) s || aJ K 1 (⟨#[61]⟩ : ByteArray) s)
 if m then do
  let _ ← next K
  let _ ← take1 K (⟨#[61]⟩ : ByteArray)
  must K (⟨#[123]⟩ : ByteArray)
  let l ← list K r .mt
  must K (⟨#[125]⟩ : ByteArray)
  put t 65 (⟨#[]⟩ : ByteArray) 0 l
 else do
  let b ← asks fun s => dA K s || cZ K 0 s
  if b then decl K r
  else do
   match ← takes K [(⟨#[116, 121, 112, 101, 100, 101, 102]⟩ : ByteArray), (⟨#[105, 110, 105, 116]⟩ : ByteArray), (⟨#[110, 101, 118, 101, 114]⟩ : ByteArray)] with
   | some 0 => do
     let d ← ident K
     must K (⟨#[123]⟩ : ByteArray)
     let l ← decls K r (⟨#[125]⟩ : ByteArray)
     put t 67 (tok K d).text 0 l
   | some 1 => do
     let h ← head K []
     let b ← block K r
     put t 63 (⟨#[]⟩ : ByteArray) 0 [h, b]
   | some _ => do
     let x ← (fun s => if cZ K 0 s then .ok (tok K s.i).text (aH K s) else .ok (⟨#[]⟩ : ByteArray) s : Pm ByteArray)
     let b ← block K r
     put t 64 x 0 [b]
   | none => proctype K r t
def modLF (l : List Int) : Pm (List Int) := do
 let t ← here
 if (tok K t).kind = 0 then pure l
 else do
  if ← take1 K (⟨#[59]⟩ : ByteArray) then r.modL l
  else do
   let k ← modul K r
   r.modL (l ++ [k])
def t7 : cT where
 bin := binF r
 binL := binLF K r
 unary := unaryF K r
 ref := refF K r
 inn := innF K r
 seq := seqF r
 stmt := stmtF K r
 listL := listLF K r
 partL := partLF K r
 seqL := seqLF K r
 optsL := optsLF K r
 declsL := declsLF K r
 printL := printLF K r
 modL := modLF K r
def t8 : cT where
 bin _ _ := .stuck
 binL _ _ _ := .stuck
 unary _ := .stuck
 ref _ := .stuck
 inn _ := .stuck
 seq _ := .stuck
 stmt _ := .stuck
 listL _ _ _ := .stuck
 partL _ _ := .stuck
 seqL _ _ := .stuck
 optsL _ _ _ := .stuck
 declsL _ _ _ := .stuck
 printL _ _ := .stuck
 modL _ _ := .stuck
def bf : Nat → cT
 | 0 => t8
 | n + 1 => t7 K (bf n)
def parse (n : Nat) : R Int := (do
 let l ← (bf K n).modL []
 put 0 60 (⟨#[]⟩ : ByteArray) 0 l : Pm Int) ⟨0, [], 0, false⟩
end
end Go.Proofs.YthkebhjaaikopaaGreatDoor
namespace Go.Proofs.YthkebhjaaikopaaGreatDoor
def ak {α : Type} (p : Pm α) (s : St) (Q : α → St → Prop) : Prop :=
 match p s with
 | .ok a s' => Q a s'
 | .err _ _ => True
 | .stuck => False
theorem ak.ok {α : Type} {p : Pm α} {s s' : St} {a : α} {Q : α → St → Prop} (h : ak p s Q) (e : p s = .ok a s') : Q a s' := by
 unfold ak at h; rw [e] at h; exact h
theorem ak.mono {α : Type} {p : Pm α} {s : St} {Q Q' : α → St → Prop} (h : ak p s Q) (hq : ∀ a s', Q a s' → Q' a s') : ak p s Q' := by
 unfold ak at *; cases hp : p s <;> rw [hp] at h
 · exact hq _ _ h
 · trivial
 · exact h
theorem ak.bind {α β : Type} {p : Pm α} {f : α → Pm β} {s : St} {Q : β → St → Prop} (h : ak p s fun a s' => ak (f a) s' Q) : ak (p >>= f) s Q := by
 unfold ak at h; show match (p s).next (fun a s' => f a s') with | .ok a s' => Q a s' | .err _ _ => True | .stuck => False
 cases hp : p s <;> rw [hp] at h
 · exact h
 · trivial
 · exact h
theorem ak.pure {α : Type} {a : α} {s : St} {Q : α → St → Prop} (h : Q a s) : ak (pure a : Pm α) s Q := h
theorem ak.here {s : St} {Q : Nat → St → Prop} (h : Q s.i s) : ak here s Q := h
theorem ak.asks {f : St → Bool} {s : St} {Q : Bool → St → Prop} (h : Q (f s) s) : ak (asks f) s Q := h
theorem ak.nodeAt {k : Int} {s : St} {Q : Nd → St → Prop} (h : Q (s.tree.getD k.toNat default) s) : ak (nodeAt k) s Q := h
theorem ak.cut {k : Nat} {s : St} {Q : Unit → St → Prop} (h : Q () { s with tree := s.tree.take k }) : ak (hP k) s Q := h
theorem ak.odd {α : Type} {s : St} {Q : α → St → Prop} : ak (tU : Pm α) s Q := trivial
theorem ak.put {t : Nat} {kind : Int} {text : ByteArray} {n : Int} {kids : List Int} {s : St} {Q : Int → St → Prop} (h : Q s.tree.length { s with tree := s.tree ++ [⟨kind, t, text, n, kids⟩] }) : ak (put t kind text n kids) s Q := by
 unfold ak Go.Proofs.YthkebhjaaikopaaGreatDoor.put
 by_cases h1 : s.tree.length = 16384
 · rw [if_pos h1]; trivial
 · rw [if_neg h1]; exact h
theorem ak.within {p : Pm Int} {s : St} {Q : Int → St → Prop} (h : s.deep < 64 → ak p { s with deep := s.deep + 1 } fun k s' => Q k { s' with deep := s'.deep - 1 }) : ak (within p) s Q := by
 unfold ak Go.Proofs.YthkebhjaaikopaaGreatDoor.within at *
 by_cases hd : 64 ≤ s.deep
 · rw [if_pos hd]; trivial
 · rw [if_neg hd]; have := h (by omega); cases hp : p { s with deep := s.deep + 1 } <;> rw [hp] at this
   · exact this
   · trivial
   · exact this
theorem ak.plainly {mid : Bool} {p : Pm Int} {s : St} {Q : Int → St → Prop} (h : ak p { s with mid := mid } fun k s' => Q k { s' with mid := s.mid }) : ak (plainly mid p) s Q := by
 unfold ak Go.Proofs.YthkebhjaaikopaaGreatDoor.plainly at *; cases hp : p { s with mid := mid } <;> rw [hp] at h
 · exact h
 · trivial
 · exact h
section
variable {K : List KT}
structure aM (K : List KT) : Prop where
 pos : 0 < K.length
 last : (tok K (K.length - 1)).kind = 0
 only : ∀ i, i + 1 < K.length → (tok K i).kind ≠ 0
theorem aM.step {s : St} (h : aM K) (hi : s.i < K.length) (hk : (tok K s.i).kind ≠ 0) : aH K s = { s with i := s.i + 1 } ∧ s.i + 1 < K.length := by
 have : s.i + 1 < K.length := by
  by_cases h1 : s.i = K.length - 1
  · rw [h1] at hk; exact absurd h.last hk
  · omega
 exact ⟨by simp [aH, this], this⟩
theorem jO (t : ByteArray) : iL t ≠ 0 := by
 unfold iL; split <;> simp
theorem dZ {s : St} : bH K s 0 = s.i := by simp [bH]
theorem bx {s : St} {t : ByteArray} (h : aJ K 0 t s = true) : (tok K s.i).kind ≠ 0 := by
 unfold aJ at h; rw [dZ] at h; simp only [Bool.and_eq_true, beq_iff_eq] at h; rw [h.1]; exact jO t
theorem jK {s : St} (h : cZ K 0 s = true) : (tok K s.i).kind ≠ 0 := by
 unfold cZ cO at h; rw [dZ] at h; simp only [Bool.and_eq_true, beq_iff_eq] at h; omega
theorem gF {s : St} : ∀ {l : List ByteArray} {i : Nat}, bN K s l = some i → ∃ t, aJ K 0 t s = true
 | [], i, h => by simp [bN] at h
 | a :: l, i, h => by
   unfold bN at h
   split at h
   · exact ⟨a, ‹_›⟩
   · cases hx : bN K s l with
     | none => rw [hx] at h; simp at h
     | some j => exact gF hx
structure Lt (K : List KT) (d : Nat) (s s' : St) : Prop where
 i : s.i + d ≤ s'.i
 lt : s'.i < K.length
 tree : s.tree.length ≤ s'.tree.length
 deep : s'.deep = s.deep
 mid : s'.mid = s.mid
 nn : 0 ≤ s'.deep
theorem Lt.refl {s : St} (hi : s.i < K.length) (hd : 0 ≤ s.deep) : Lt K 0 s s := ⟨Nat.le_refl _, hi, Nat.le_refl _, rfl, rfl, hd⟩
theorem Lt.trans {a b c : St} {d e f : Nat} (h : Lt K d a b) (k : Lt K e b c) (hf : f ≤ d + e) : Lt K f a c :=
 ⟨by have := h.i; have := k.i; omega, k.lt, Nat.le_trans h.tree k.tree, k.deep.trans h.deep, k.mid.trans h.mid, k.nn⟩
theorem Lt.less {a b : St} {d e : Nat} (h : Lt K d a b) (he : e ≤ d) : Lt K e a b := ⟨by have := h.i; omega, h.lt, h.tree, h.deep, h.mid, h.nn⟩
theorem Lt.put {a b : St} {d : Nat} (h : Lt K d a b) (x : Nd) : Lt K d a { b with tree := b.tree ++ [x] } := ⟨h.i, h.lt, by have := h.tree; simp; omega, h.deep, h.mid, h.nn⟩
theorem Lt.adv {a b : St} {d : Nat} (h : Lt K d a b) (hb : b.i + 1 < K.length) : Lt K (d + 1) a { b with i := b.i + 1 } := ⟨by have := h.i; show _ ≤ b.i + 1; omega, hb, h.tree, h.deep, h.mid, h.nn⟩
theorem ak.takes {l : List ByteArray} {s : St} {Q : Option Nat → St → Prop} (hE : aM K) (hi : s.i < K.length) (h1 : ∀ j, bN K s l = some j → s.i + 1 < K.length → Q (some j) { s with i := s.i + 1 }) (h2 : bN K s l = none → Q none s) : ak (takes K l) s Q := by
 unfold ak Go.Proofs.YthkebhjaaikopaaGreatDoor.takes; cases h : bN K s l with
 | none => exact h2 h
 | some j =>
   obtain ⟨t, ht⟩ := gF h; obtain ⟨e, hl⟩ := hE.step hi (bx ht); simp only [e]; exact h1 j h hl
theorem ak.take1 {t : ByteArray} {s : St} {Q : Bool → St → Prop} (hE : aM K) (hi : s.i < K.length) (h1 : aJ K 0 t s = true → s.i + 1 < K.length → Q true { s with i := s.i + 1 }) (h2 : aJ K 0 t s = false → Q false s) : ak (take1 K t) s Q := by
 unfold ak Go.Proofs.YthkebhjaaikopaaGreatDoor.take1
 by_cases h : aJ K 0 t s = true
 · obtain ⟨e, hl⟩ := hE.step hi (bx h); simp only [h, if_true, e]; exact h1 h hl
 · have h' : aJ K 0 t s = false := by simpa using h
   simp only [h', Bool.false_eq_true, if_false]; exact h2 h'
theorem ak.must {t : ByteArray} {s : St} {Q : Unit → St → Prop} (hE : aM K) (hi : s.i < K.length) (h1 : s.i + 1 < K.length → Q () { s with i := s.i + 1 }) : ak (must K t) s Q := by
 unfold ak Go.Proofs.YthkebhjaaikopaaGreatDoor.must
 by_cases h : aJ K 0 t s = true
 · obtain ⟨e, hl⟩ := hE.step hi (bx h); simp only [h, if_true, e]; exact h1 hl
 · have h' : aJ K 0 t s = false := by simpa using h
   simp only [h', Bool.false_eq_true, if_false]
theorem ak.next {s : St} {Q : Nat → St → Prop} (hE : aM K) (hi : s.i < K.length) (hk : (tok K s.i).kind ≠ 0) (h1 : s.i + 1 < K.length → Q s.i { s with i := s.i + 1 }) : ak (next K) s Q := by
 unfold ak Go.Proofs.YthkebhjaaikopaaGreatDoor.next; obtain ⟨e, hl⟩ := hE.step hi hk; simp only [e]; exact h1 hl
theorem ak.ident {s : St} {Q : Nat → St → Prop} (hE : aM K) (hi : s.i < K.length) (h1 : s.i + 1 < K.length → Q s.i { s with i := s.i + 1 }) : ak (ident K) s Q := by
 unfold ak Go.Proofs.YthkebhjaaikopaaGreatDoor.ident
 by_cases h : cZ K 0 s = true
 · obtain ⟨e, hl⟩ := hE.step hi (jK h); simp only [h, if_true, e]; exact h1 hl
 · have h' : cZ K 0 s = false := by simpa using h
   simp only [h', Bool.false_eq_true, if_false]
theorem ak.num {lo hi' : Int} {s : St} {Q : Int → St → Prop} (hE : aM K) (hi : s.i < K.length) (h1 : s.i + 1 < K.length → Q (tok K s.i).n { s with i := s.i + 1 }) : ak (num K lo hi') s Q := by
 unfold ak Go.Proofs.YthkebhjaaikopaaGreatDoor.num
 by_cases h : (tok K s.i).kind ≠ 2 ∨ (tok K s.i).n < lo ∨ hi' < (tok K s.i).n
 · simp only [h, if_true]
 · obtain ⟨e, hl⟩ := hE.step hi (by intro h0; apply h; left; omega); simp only [h, if_false, e]; exact h1 hl
theorem ak.some1 {s : St} {Q : Int → St → Prop} (hE : aM K) (hi : s.i < K.length) (h1 : s.i + 1 < K.length → Q (tok K s.i).n { s with i := s.i + 1 }) : ak (some1 K) s Q := by
 unfold ak Go.Proofs.YthkebhjaaikopaaGreatDoor.some1
 by_cases h : (tok K s.i).n = 0
 · simp only [h, if_true]
 · simp only [h, if_false]; exact ak.num (lo := -9223372036854775808) (hi' := 9223372036854775807) hE hi h1
def bg (k : Int) (s : St) : Prop := 0 ≤ k ∧ k < s.tree.length
def ct (K : List KT) (s : St) (k : Int) (s' : St) : Prop := Lt K 1 s s' ∧ bg k s'
def dS (K : List KT) (d : Nat) (s : St) (_ : List Int) (s' : St) : Prop := Lt K d s s'
structure bs (K : List KT) (n : Nat) (r : cT) : Prop where
 bin : ∀ k s, k ≤ 10 → s.i < K.length → 0 ≤ s.deep → 20 * (K.length - s.i) + (13 - k) ≤ n → ak (r.bin k) s (ct K s)
 binL : ∀ k a s, k < 10 → s.i < K.length → 0 ≤ s.deep → bg a s → 20 * (K.length - s.i) + 1 ≤ n → ak (r.binL k a) s fun b s' => Lt K 0 s s' ∧ bg b s'
 unary : ∀ s, s.i < K.length → 0 ≤ s.deep → 20 * (K.length - s.i) + 2 ≤ n → ak r.unary s (ct K s)
 ref : ∀ s, s.i < K.length → 0 ≤ s.deep → 20 * (K.length - s.i) + 1 ≤ n → ak r.ref s fun k s' => ct K s k s' ∧ k + 1 = s'.tree.length ∧ (s.tree.length : Int) ≤ k ∧ (((s'.tree.getD k.toNat default).n = 1 → (s'.tree.getD k.toNat default).kids.length = 1))
 inn : ∀ s, s.i < K.length → 0 ≤ s.deep → 20 * (K.length - s.i) + 2 ≤ n → ak r.inn s (ct K s)
 seq : ∀ s, s.i < K.length → 0 ≤ s.deep → 20 * (K.length - s.i) + 16 ≤ n → ak r.seq s (ct K s)
 stmt : ∀ s, s.i < K.length → 0 ≤ s.deep → 20 * (K.length - s.i) + 14 ≤ n → ak r.stmt s (ct K s)
 listL : ∀ o l s, s.i < K.length → 0 ≤ s.deep → 20 * (K.length - s.i) + 1 ≤ n → ak (r.listL o l) s (dS K 0 s)
 partL : ∀ b s, s.i < K.length → 0 ≤ s.deep → 20 * (K.length - s.i) + 1 ≤ n → ak (r.partL b) s fun _ s' => Lt K 0 s s'
 seqL : ∀ l s, s.i < K.length → 0 ≤ s.deep → 20 * (K.length - s.i) + 15 ≤ n → ak (r.seqL l) s (dS K 1 s)
 optsL : ∀ e l s, s.i < K.length → 0 ≤ s.deep → 20 * (K.length - s.i) + 1 ≤ n → ak (r.optsL e l) s (dS K (if l.isEmpty then 1 else 0) s)
 declsL : ∀ e l s, s.i < K.length → 0 ≤ s.deep → 20 * (K.length - s.i) + 1 ≤ n → ak (r.declsL e l) s (dS K 0 s)
 printL : ∀ l s, s.i < K.length → 0 ≤ s.deep → 20 * (K.length - s.i) + 1 ≤ n → ak (r.printL l) s (dS K 0 s)
 modL : ∀ l s, s.i < K.length → 0 ≤ s.deep → 20 * (K.length - s.i) + 1 ≤ n → ak (r.modL l) s (dS K 0 s)
end
end Go.Proofs.YthkebhjaaikopaaGreatDoor
namespace Go.Proofs.YthkebhjaaikopaaGreatDoor
theorem ak.iT {α : Type} {p q : Pm α} {s : St} {Q : α → St → Prop} (h : ak p s Q) : ak (if true = true then p else q) s Q := h
theorem ak.iF {α : Type} {p q : Pm α} {s : St} {Q : α → St → Prop} (h : ak q s Q) : ak (if false = true then p else q) s Q := h
theorem ak.ite {α : Type} {c : Prop} [Decidable c] {p q : Pm α} {s : St} {Q : α → St → Prop} (h1 : c → ak p s Q) (h2 : ¬ c → ak q s Q) : ak (if c then p else q) s Q := by
 by_cases h : c
 · rw [if_pos h]; exact h1 h
 · rw [if_neg h]; exact h2 h
section
variable {K : List KT} {r : cT} {n d : Nat} {s0 s : St}
theorem cf {l : List ByteArray} {Q : Option Nat → St → Prop} (hE : aM K) (L : Lt K d s0 s) (h1 : ∀ j s1, Lt K (d + 1) s0 s1 → Q (some j) s1) (h2 : Q none s) : ak (takes K l) s Q :=
 ak.takes hE L.lt (fun j _ h => h1 j _ (L.adv h)) (fun _ => h2)
theorem bk {t : ByteArray} {Q : Bool → St → Prop} (hE : aM K) (L : Lt K d s0 s) (h1 : ∀ s1, Lt K (d + 1) s0 s1 → Q true s1) (h2 : Q false s) : ak (take1 K t) s Q :=
 ak.take1 hE L.lt (fun _ h => h1 _ (L.adv h)) (fun _ => h2)
theorem aL {t : ByteArray} {Q : Unit → St → Prop} (hE : aM K) (L : Lt K d s0 s) (h1 : ∀ s1, Lt K (d + 1) s0 s1 → Q () s1) : ak (must K t) s Q :=
 ak.must hE L.lt (fun h => h1 _ (L.adv h))
theorem cE {Q : Nat → St → Prop} (hE : aM K) (L : Lt K d s0 s) (hk : (tok K s.i).kind ≠ 0) (h1 : ∀ s1, Lt K (d + 1) s0 s1 → Q s.i s1) : ak (next K) s Q :=
 ak.next hE L.lt hk (fun h => h1 _ (L.adv h))
theorem cV {Q : Nat → St → Prop} (hE : aM K) (L : Lt K d s0 s) (h1 : ∀ s1, Lt K (d + 1) s0 s1 → Q s.i s1) : ak (ident K) s Q :=
 ak.ident hE L.lt (fun h => h1 _ (L.adv h))
theorem nq {lo hi : Int} {Q : Int → St → Prop} (hE : aM K) (L : Lt K d s0 s) (h1 : ∀ x s1, Lt K (d + 1) s0 s1 → Q x s1) : ak (num K lo hi) s Q :=
 ak.num hE L.lt (fun h => h1 _ _ (L.adv h))
theorem ry {Q : Int → St → Prop} (hE : aM K) (L : Lt K d s0 s) (h1 : ∀ x s1, Lt K (d + 1) s0 s1 → Q x s1) : ak (fA K) s Q :=
 ak.num hE L.lt (fun h => h1 _ _ (L.adv h))
theorem kl {Q : Int → St → Prop} (hE : aM K) (L : Lt K d s0 s) (h1 : ∀ x s1, Lt K (d + 1) s0 s1 → Q x s1) : ak (some1 K) s Q :=
 ak.some1 hE L.lt (fun h => h1 _ _ (L.adv h))
theorem aG {t : Nat} {kind : Int} {text : ByteArray} {m : Int} {kids : List Int} {Q : Int → St → Prop} (L : Lt K d s0 s) (h1 : ∀ k s1, Lt K d s0 s1 → bg k s1 → Q k s1) : ak (put t kind text m kids) s Q :=
 ak.put (h1 _ _ (L.put _) ⟨by simp, by simp; omega⟩)
theorem dy {p : Pm Int} {Q : Int → St → Prop} (L : Lt K d s0 s) (h : ak p s (ct K s)) (h1 : ∀ k s1, Lt K (d + 1) s0 s1 → bg k s1 → Q k s1) : ak p s Q :=
 h.mono fun k s1 h => h1 k s1 (L.trans h.1 (Nat.le_refl _)) h.2
theorem bX {p : Pm (List Int)} {e : Nat} {Q : List Int → St → Prop} (L : Lt K d s0 s) (h : ak p s (dS K e s)) (h1 : ∀ l s1, Lt K (d + e) s0 s1 → Q l s1) : ak p s Q :=
 h.mono fun l s1 h => h1 l s1 (L.trans h (Nat.le_refl _))
theorem eZ {p : Pm Int} {Q : Int → St → Prop} (L : Lt K d s0 s) (h : ∀ s', s'.i = s.i → 0 ≤ s'.deep → ak p s' (ct K s')) (h1 : ∀ k s1, Lt K (d + 1) s0 s1 → bg k s1 → Q k s1) : ak (within p) s Q :=
 ak.within fun _ => (h { s with deep := s.deep + 1 } rfl (by have := L.nn; show 0 ≤ s.deep + 1; omega)).mono fun k s1 h => h1 k _
  ⟨by have := L.i; have := h.1.i; show s0.i + (d + 1) ≤ s1.i; have e : ({ s with deep := s.deep + 1 } : St).i = s.i := rfl; omega, h.1.lt, Nat.le_trans L.tree h.1.tree, by have := h.1.deep; have e : ({ s with deep := s.deep + 1 } : St).deep = s.deep + 1 := rfl; have := L.deep; show s1.deep - 1 = s0.deep; omega, h.1.mid.trans L.mid, by have := h.1.deep; have e : ({ s with deep := s.deep + 1 } : St).deep = s.deep + 1 := rfl; have := L.nn; show 0 ≤ s1.deep - 1; omega⟩ h.2
theorem fx {m : Bool} {p : Pm Int} {Q : Int → St → Prop} (L : Lt K d s0 s) (h : ∀ s', s'.i = s.i → 0 ≤ s'.deep → ak p s' (ct K s')) (h1 : ∀ k s1, Lt K (d + 1) s0 s1 → bg k s1 → Q k s1) : ak (plainly m p) s Q :=
 ak.plainly ((h { s with mid := m } rfl L.nn).mono fun k s1 h => h1 k _
  ⟨by have := L.i; have := h.1.i; show s0.i + (d + 1) ≤ s1.i; have e : ({ s with mid := m } : St).i = s.i := rfl; omega, h.1.lt, Nat.le_trans L.tree h.1.tree, h.1.deep.trans L.deep, L.mid, h.1.nn⟩ h.2)
theorem du {Q : Int → St → Prop} (H : bs K n r) (L : Lt K d s0 s) (hn : 20 * (K.length - s.i) + 13 ≤ n) (h1 : ∀ k s1, Lt K (d + 1) s0 s1 → bg k s1 → Q k s1) : ak (expr r) s Q :=
 dy L (H.bin 0 s (by omega) L.lt L.nn (by omega)) h1
theorem cA {Q : Int → St → Prop} (H : bs K n r) (L : Lt K d s0 s) (hn : 20 * (K.length - s.i) + 13 ≤ n) (h1 : ∀ k s1, Lt K (d + 1) s0 s1 → bg k s1 → Q k s1) : ak (inner r) s Q :=
 fx L (fun s' e hd => H.bin 0 s' (by omega) (by rw [e]; exact L.lt) hd (by rw [e]; omega)) h1
theorem d9 {Q : Int → St → Prop} (H : bs K n r) (L : Lt K d s0 s) (hn : 20 * (K.length - s.i) + 1 ≤ n) (h1 : ∀ k s1, Lt K (d + 1) s0 s1 → bg k s1 → Q k s1) : ak r.ref s Q :=
 dy L ((H.ref s L.lt L.nn hn).mono fun _ _ h => h.1) h1
theorem ke {Q : Int → St → Prop} (hE : aM K) (L : Lt K d s0 s) (h1 : ∀ k s1, Lt K (d + 1) s0 s1 → bg k s1 → Q k s1) : ak (typ K) s Q := by
 unfold typ; refine ak.bind (ak.here ?_); refine ak.bind (cf hE L (fun j s1 L1 => ?_) ?_)
 · exact aG L1 h1
 · refine ak.bind (cV hE L fun s1 L1 => ?_); exact aG L1 h1
theorem i7 {Q : Int → St → Prop} (hE : aM K) (H : bs K n r) (L : Lt K d s0 s) (hn : 20 * (K.length - s.i) ≤ n) (h1 : ∀ k s1, Lt K (d + 1) s0 s1 → bg k s1 → Q k s1) : ak (channel K r) s Q := by
 unfold channel; refine ak.bind (ak.here ?_); have LL := Lt.refl L.lt L.nn; refine ak.bind (aL hE LL fun s1 L1 => ?_); refine ak.bind (ry hE L1 fun x s2 L2 => ?_); refine ak.bind (aL hE L2 fun s3 L3 => ?_); refine ak.bind (aL hE L3 fun s4 L4 => ?_); refine ak.bind (aL hE L4 fun s5 L5 => ?_); refine ak.bind (ke hE L5 fun k s6 L6 _ => ?_); refine ak.bind (bX L6 (H.listL _ _ s6 L6.lt L6.nn (by have := L6.i; have := L6.lt; omega)) fun l s7 L7 => ?_); refine ak.bind (aL hE L7 fun s8 L8 => ?_); exact aG (L.trans L8 (f := d + 1) (by omega)) h1
theorem pI {k : Int} {Q : List Int → St → Prop} (hE : aM K) (H : bs K n r) (L : Lt K d s0 s) (hn : 20 * (K.length - s.i) ≤ n) (h1 : ∀ l s1, Lt K d s0 s1 → Q l s1) : ak (initOf K r k) s Q := by
 unfold initOf; have LL := Lt.refl L.lt L.nn; refine ak.bind (bk hE LL (fun s1 L1 => ?_) ?_)
 · refine ak.iT ?_; have hn1 : 20 * (K.length - s1.i) + 20 ≤ n := by have := L1.i; have := L1.lt; have := L.lt; omega
   refine ak.ite (fun _ => ?_) fun _ => ?_
   · refine ak.bind (i7 hE H L1 (by omega) fun k s2 L2 _ => ?_); exact ak.pure (h1 _ _ (L.trans L2 (by omega)))
   · refine ak.bind (du H L1 (by omega) fun k s2 L2 _ => ?_); exact ak.pure (h1 _ _ (L.trans L2 (by omega)))
 · exact ak.iF (ak.pure (h1 _ _ L))
theorem o8 {k : Int} {Q : Int → St → Prop} (hE : aM K) (L : Lt K d s0 s) (h1 : ∀ x s1, Lt K d s0 s1 → Q x s1) : ak (sizeOf K k) s Q := by
 unfold sizeOf; refine ak.ite (fun _ => ?_) fun _ => ?_
 · refine ak.bind (aL hE L fun s1 L1 => ?_); exact kl hE L1 fun x s2 L2 => h1 _ _ (L2.less (by omega))
 · refine ak.bind (bk hE L (fun s1 L1 => ?_) ?_)
   · refine ak.iT ?_; refine ak.bind (kl hE L1 fun x s2 L2 => ?_); refine ak.bind (aL hE L2 fun s3 L3 => ?_); exact ak.pure (h1 _ _ (L3.less (by omega)))
   · exact ak.iF (ak.pure (h1 _ _ L))
theorem p8 {k : Int} {Q : Int → St → Prop} (hE : aM K) (H : bs K n r) (L : Lt K d s0 s) (hn : 20 * (K.length - s.i) ≤ n + 19) (h1 : ∀ k s1, Lt K (d + 1) s0 s1 → bg k s1 → Q k s1) : ak (variable1 K r k) s Q := by
 unfold variable1; have LL := Lt.refl L.lt L.nn; refine ak.bind (cV hE LL fun s1 L1 => ?_); have hn1 : 20 * (K.length - s1.i) ≤ n := by have := L1.i; have := L1.lt; have := L.lt; omega
 refine ak.bind (o8 hE L1 fun x s2 L2 => ?_); refine ak.bind (pI hE H L2 (by have := L2.i; have := L2.lt; have := L1.i; have := L1.lt; omega) fun l s3 L3 => ?_); exact aG (L.trans L3 (by omega)) h1
theorem uc {Q : Int → St → Prop} (hE : aM K) (L : Lt K d s0 s) (h1 : ∀ k s1, Lt K (d + 1) s0 s1 → bg k s1 → Q k s1) : ak (mt K) s Q := by
 unfold mt; refine ak.bind (cV hE L fun s1 L1 => ?_); exact aG L1 h1
theorem gq {o : gA} {Q : Int → St → Prop} (hE : aM K) (H : bs K n r) (L : Lt K d s0 s) (hn : 20 * (K.length - s.i) + 13 ≤ n) (h1 : ∀ k s1, Lt K (d + 1) s0 s1 → bg k s1 → Q k s1) : ak (one K r o) s Q := by
 cases o with
 | expr => exact du H L hn h1
 | inner => exact cA H L hn h1
 | typ => exact ke hE L h1
 | ref => exact d9 H L (by omega) h1
 | inn => exact dy L (H.inn s L.lt L.nn (by omega)) h1
 | mt => exact uc hE L h1
 | var k => exact p8 hE H L (by omega) h1
theorem dD {o : gA} {Q : List Int → St → Prop} (hE : aM K) (H : bs K n r) (L : Lt K d s0 s) (hn : 20 * (K.length - s.i) + 13 ≤ n) (h1 : ∀ l s1, Lt K (d + 1) s0 s1 → Q l s1) : ak (list K r o) s Q := by
 unfold list; have LL := Lt.refl L.lt L.nn; refine ak.bind (gq hE H LL hn fun k s1 L1 _ => ?_); exact bX L1 (H.listL _ _ s1 L1.lt L1.nn (by have := L1.i; have := L1.lt; omega)) fun l s2 L2 => h1 _ _ (L.trans L2 (by omega))
theorem mg {k : Int} {Q : List Int → St → Prop} (hE : aM K) (H : bs K n r) (L : Lt K d s0 s) (hn : 20 * (K.length - s.i) ≤ n) (h1 : ∀ l s1, Lt K (d + 1) s0 s1 → Q l s1) : ak (list K r (.var k)) s Q := by
 unfold list; have LL := Lt.refl L.lt L.nn; refine ak.bind (p8 hE H LL (by omega) fun k s1 L1 _ => ?_); exact bX L1 (H.listL _ _ s1 L1.lt L1.nn (by have := L1.i; have := L1.lt; omega)) fun l s2 L2 => h1 _ _ (L.trans L2 (by omega))
theorem dH {p : Pm Int} {Q : Int → St → Prop} (hE : aM K) (L : Lt K d s0 s) (h : ∀ s1, s.i + 1 ≤ s1.i → Lt K (d + 1) s0 s1 → ak p s1 (ct K s1)) (h1 : ∀ k s1, Lt K (d + 1) s0 s1 → bg k s1 → Q k s1) : ak (braced K p) s Q := by
 unfold braced; have LL := Lt.refl L.lt L.nn; refine ak.bind (aL hE LL fun s1 L1 => ?_); refine ak.bind (dy L1 (h s1 (by have := L1.i; omega) (L.trans L1 (by omega))) fun k s2 L2 hk => ?_); refine ak.bind (ak.must hE L2.lt fun hl => ?_); exact ak.pure (h1 _ _ (L.trans (L2.adv hl) (by omega)) hk)
theorem kz {f m : gA} {Q : List Int → St → Prop} (hE : aM K) (H : bs K n r) (L : Lt K d s0 s) (hn : 20 * (K.length - s.i) + 13 ≤ n) (h1 : ∀ l s1, Lt K (d + 1) s0 s1 → Q l s1) : ak (pack K r f m) s Q := by
 unfold pack; have LL := Lt.refl L.lt L.nn; refine ak.bind (gq hE H LL hn fun k s1 L1 _ => ?_); refine ak.bind (cf hE L1 (fun j s2 L2 => ?_) ?_)
 · have hn2 : 20 * (K.length - s2.i) + 13 ≤ n := by have := L2.i; have := L2.lt; omega
   rcases j with _ | j
   · refine ak.bind (dD hE H L2 hn2 fun l s3 L3 => ?_); refine ak.bind (aL hE L3 fun s4 L4 => ?_); exact ak.pure (h1 _ _ (L.trans L4 (by omega)))
   · refine ak.bind (dD hE H L2 hn2 fun l s3 L3 => ?_); exact ak.pure (h1 _ _ (L.trans L3 (by omega)))
 · exact ak.pure (h1 _ _ (L.trans L1 (by omega)))
end
end Go.Proofs.YthkebhjaaikopaaGreatDoor
namespace Go.Proofs.YthkebhjaaikopaaGreatDoor
section
variable {K : List KT} {r : cT} {n d : Nat} {s0 s : St}
theorem rq {k : Nat} (H : bs K n r) (hk : k ≤ 10) (hi : s.i < K.length) (hd : 0 ≤ s.deep) (hn : 20 * (K.length - s.i) + (13 - k) ≤ n + 1) : ak (binF r k) s (ct K s) := by
 unfold binF; have LL := Lt.refl hi hd; refine ak.ite (fun _ => ?_) fun h10 => ?_
 · exact eZ LL (fun s' e h => H.unary s' (by omega) h (by rw [e]; omega)) fun k s1 L1 h => ⟨L1, h⟩
 · refine ak.bind (dy LL (H.bin (k + 1) s (by omega) hi hd (by omega)) fun a s1 L1 ha => ?_); refine (H.binL k a s1 (by omega) L1.lt L1.nn ha (by have := L1.i; have := L1.lt; omega)).mono fun b s2 h => ?_
   exact ⟨L1.trans h.1 (by omega), h.2⟩
theorem pU {k : Nat} {a : Int} (hE : aM K) (H : bs K n r) (hk : k < 10) (hi : s.i < K.length) (hd : 0 ≤ s.deep) (ha : bg a s) (hn : 20 * (K.length - s.i) + 1 ≤ n + 1) : ak (binLF K r k a) s fun b s' => Lt K 0 s s' ∧ bg b s' := by
 unfold binLF; have LL := Lt.refl hi hd; refine ak.bind (ak.here ?_); cases hp : (if (tok K s.i).kind = 4 then bh (tok K s.i).text (az k) else none) with
 | none => exact ak.pure ⟨LL, ha⟩
 | some j =>
   have h4 : (tok K s.i).kind ≠ 0 := by
    intro h0; rw [if_neg (by omega)] at hp; cases hp
   refine ak.bind (cE hE LL h4 fun s1 L1 => ?_); refine ak.bind (dy L1 (H.bin (k + 1) s1 (by omega) L1.lt L1.nn (by have := L1.i; have := L1.lt; omega)) fun b s2 L2 hb => ?_); refine ak.bind (aG L2 fun c s3 L3 hc => ?_); refine (H.binL k c s3 hk L3.lt L3.nn hc (by have := L3.i; have := L3.lt; omega)).mono fun e s4 h => ?_
   exact ⟨L3.trans h.1 (by omega), h.2⟩
theorem nC {o : gA} {l : List Int} (hE : aM K) (H : bs K n r) (hi : s.i < K.length) (hd : 0 ≤ s.deep) (hn : 20 * (K.length - s.i) + 1 ≤ n + 1) : ak (listLF K r o l) s (dS K 0 s) := by
 unfold listLF; have LL := Lt.refl hi hd; refine ak.bind (bk hE LL (fun s1 L1 => ?_) ?_)
 · refine ak.iT ?_; refine ak.bind (gq hE H L1 (by have := L1.i; have := L1.lt; omega) fun k s2 L2 _ => ?_); exact bX L2 (H.listL _ _ s2 L2.lt L2.nn (by have := L2.i; have := L2.lt; omega)) fun l s3 L3 => L3.less (by omega)
 · exact ak.iF (ak.pure LL)
theorem qu (hE : aM K) (H : bs K n r) (hi : s.i < K.length) (hd : 0 ≤ s.deep) (hn : 20 * (K.length - s.i) + 1 ≤ n + 1) : ak (refF K r) s fun k s' => ct K s k s' ∧ k + 1 = s'.tree.length ∧ (s.tree.length : Int) ≤ k ∧ ((s'.tree.getD k.toNat default).n = 1 → (s'.tree.getD k.toNat default).kids.length = 1) := by
 unfold refF; have LL := Lt.refl hi hd; refine ak.bind (cV hE LL fun s1 L1 => ?_); have hn1 : 20 * (K.length - s1.i) + 20 ≤ n + 1 := by have := L1.i; have := L1.lt; omega
 have fin : ∀ (a b : Option Int) s5, Lt K 1 s s5 → ak (put s.i 2 (tok K s.i).text ((if a.isSome then 1 else 0) + (if b.isSome then 2 else 0)) (a.toList ++ b.toList)) s5 fun k s' => ct K s k s' ∧ k + 1 = s'.tree.length ∧ (s.tree.length : Int) ≤ k ∧ ((s'.tree.getD k.toNat default).n = 1 → (s'.tree.getD k.toNat default).kids.length = 1) := by
  intro a b s5 L5; refine ak.put ⟨⟨L5.put _, by simp, by simp; omega⟩, by simp, by have := L5.tree; simp; omega, ?_⟩; intro h; simp only [Int.toNat_natCast, List.getD_eq_getElem?_getD, List.getElem?_concat_length, Option.getD_some] at h ⊢; cases a <;> cases b <;> simp_all
 have dot : ∀ (a : Option Int) s4, Lt K 1 s s4 → ak (do
  let b ← (do
   if ← take1 K (⟨#[46]⟩ : ByteArray) then do
    let k ← r.ref
    pure (some k)
   else pure none)
  put s.i 2 (tok K s.i).text ((if a.isSome then 1 else 0) + (if b.isSome then 2 else 0)) (a.toList ++ b.toList)) s4 fun k s' => ct K s k s' ∧ k + 1 = s'.tree.length ∧ (s.tree.length : Int) ≤ k ∧ ((s'.tree.getD k.toNat default).n = 1 → (s'.tree.getD k.toNat default).kids.length = 1) := by
  intro a s4 L4; refine ak.bind (ak.bind (bk hE L4 (fun s5 L5 => ?_) ?_))
  · refine ak.iT (ak.bind (d9 H L5 (by have := L5.i; have := L5.lt; omega) fun k s6 L6 _ => ?_)); exact ak.pure (fin a (some k) s6 (L6.less (by omega)))
  · exact ak.iF (ak.pure (fin a none s4 L4))
 refine ak.bind (ak.bind (bk hE L1 (fun s2 L2 => ?_) ?_))
 · refine ak.iT (ak.bind (cA H L2 (by have := L2.i; have := L2.lt; omega) fun k s3 L3 _ => ?_)); refine ak.bind (aL hE L3 fun s4 L4 => ?_); exact ak.pure (dot (some k) s4 (L4.less (by omega)))
 · exact ak.iF (ak.pure (dot none s1 L1))
theorem qr {t : Nat} {Q : Int → St → Prop} (hE : aM K) (H : bs K n r) (L : Lt K d s0 s) (hn : 20 * (K.length - s.i) + 13 ≤ n) (h1 : ∀ k s1, Lt K (d + 1) s0 s1 → bg k s1 → Q k s1) : ak (round K r t) s Q := by
 unfold round; have LL := Lt.refl L.lt L.nn; refine ak.bind (cA H LL hn fun a s1 L1 ha => ?_); refine ak.bind (bk hE L1 (fun s2 L2 => ?_) ?_)
 · refine ak.iT ?_; refine ak.bind (fx L2 (fun s' e h => H.bin 0 s' (by omega) (by rw [e]; exact L2.lt) h (by rw [e]; have := L2.i; have := L2.lt; omega)) fun b s3 L3 _ => ?_); refine ak.bind (aL hE L3 fun s4 L4 => ?_); refine ak.bind (cA H L4 (by have := L4.i; have := L4.lt; omega) fun c s5 L5 _ => ?_); refine ak.bind (aL hE L5 fun s6 L6 => ?_); exact aG (L.trans L6 (by omega)) h1
 · refine ak.iF ?_; refine ak.bind (ak.must hE L1.lt fun hl => ?_); exact ak.pure (h1 _ _ (L.trans (L1.adv hl) (by omega)) ha)
theorem mw {Q : Int → St → Prop} (h1 : ∀ i, (0 ≤ i → (tok K s.i).kind ≠ 0) → Q i s) : ak (asked K) s Q := by
 refine h1 (eI K s) fun h => ?_
 unfold eI at h
 by_cases e1 : aJ K 0 (⟨#[63]⟩ : ByteArray) s = true
 · exact bx e1
 · by_cases e2 : aJ K 0 (⟨#[63, 63]⟩ : ByteArray) s = true
   · exact bx e2
   · simp [e1, e2] at h
theorem nG {Q : List Int → St → Prop} (hE : aM K) (H : bs K n r) (L : Lt K d s0 s) (hn : 20 * (K.length - s.i) + 13 ≤ n) (h1 : ∀ l s1, Lt K (d + 1) s0 s1 → Q l s1) : ak (ins K r) s Q := kz hE H L hn h1
theorem oB {Q : List Int → St → Prop} (hE : aM K) (H : bs K n r) (L : Lt K d s0 s) (hn : 20 * (K.length - s.i) + 13 ≤ n) (h1 : ∀ l s1, Lt K (d + 1) s0 s1 → Q l s1) : ak (outs K r) s Q := kz hE H L hn h1
theorem qD {Q : Int → St → Prop} (hE : aM K) (H : bs K n r) (L : Lt K d s0 s) (hn : 20 * (K.length - s.i) + 1 ≤ n) (h1 : ∀ k s1, Lt K (d + 1) s0 s1 → bg k s1 → Q k s1) : ak (named K r) s Q := by
 unfold named; refine ak.bind (ak.here ?_); refine ak.bind ((H.ref s L.lt L.nn hn).mono fun a s1 h => ?_); obtain ⟨⟨L1, ha⟩, hlen, hlow, -⟩ := h; refine ak.bind (ak.nodeAt ?_); generalize s1.tree.getD a.toNat default = x; refine ak.bind (ak.asks ?_); cases hre : (x.n == 1 && (aJ K 0 (⟨#[64]⟩ : ByteArray) s1 || aJ K 0 (⟨#[58]⟩ : ByteArray) s1 && !s1.mid)) with
 | true =>
   refine ak.iT ?_; have hk : (tok K s1.i).kind ≠ 0 := by
    simp only [Bool.and_eq_true, Bool.or_eq_true] at hre; rcases hre.2 with h | h
    · exact bx h
    · exact bx h.1
   refine ak.bind (ak.cut ?_); have LC : Lt K 1 s { s1 with tree := s1.tree.take a.toNat } := ⟨L1.i, L1.lt, by have := ha.1; have := ha.2; simp; omega, L1.deep, L1.mid, L1.nn⟩; refine ak.bind (cE hE LC hk fun s2 L2 => ?_); refine ak.ite (fun _ => ?_) fun _ => ?_
   · refine ak.bind (cV hE L2 fun s3 L3 => ?_); refine ak.bind (aG L3 fun k s4 L4 _ => ?_); exact aG (L.trans L4 (by omega)) h1
   · refine ak.bind (d9 H L2 (by have := L2.i; have := L2.lt; omega) fun k s3 L3 _ => ?_); exact aG (L.trans L3 (by omega)) h1
 | false =>
   refine ak.iF ?_; refine ak.bind (mw fun i hi => ?_); refine ak.ite (fun h => ?_) fun _ => ?_
   · refine ak.bind (cE hE L1 (hi h) fun s2 L2 => ?_); refine ak.bind (aL hE L2 fun s3 L3 => ?_); refine ak.bind (nG hE H L3 (by have := L3.i; have := L3.lt; omega) fun l s4 L4 => ?_); refine ak.bind (aL hE L4 fun s5 L5 => ?_); exact aG (L.trans L5 (by omega)) h1
   · exact ak.pure (h1 _ _ (L.trans L1 (by omega)) ha)
theorem rJ {t : Nat} {Q : Int → St → Prop} (hE : aM K) (H : bs K n r) (L : Lt K d s0 s) (hn : 20 * (K.length - s.i) ≤ n) (h1 : ∀ k s1, Lt K (d + 1) s0 s1 → bg k s1 → Q k s1) : ak (word K r t) s Q := by
 unfold word; have LL := Lt.refl L.lt L.nn; refine ak.bind (cf hE LL (fun j s1 L1 => ?_) ?_)
 · have hn1 : 20 * (K.length - s1.i) + 20 ≤ n := by have := L1.i; have := L1.lt; omega
   rcases j with _ | j
   · exact qr hE H L1 (by omega) fun k s2 L2 hk => h1 k s2 (L.trans L2 (by omega)) hk
   · refine ak.bind (cV hE L1 fun s2 L2 => ?_); refine ak.bind (aL hE L2 fun s3 L3 => ?_); refine ak.bind (ak.bind (bk hE L3 (fun s4 L4 => ?_) ?_))
     · exact ak.iT (ak.pure (aG (L.trans L4 (by omega)) h1))
     · refine ak.iF (ak.bind (dD hE H L3 (by have := L3.i; have := L3.lt; have := L1.i; omega) fun l s4 L4 => ?_)); refine ak.bind (aL hE L4 fun s5 L5 => ?_); exact ak.pure (aG (L.trans L5 (by omega)) h1)
 · exact ak.odd
theorem mH (hE : aM K) (H : bs K n r) (hi : s.i < K.length) (hd : 0 ≤ s.deep) (hn : 20 * (K.length - s.i) + 2 ≤ n + 1) : ak (unaryF K r) s (ct K s) := by
 unfold unaryF; have LL := Lt.refl hi hd; refine ak.bind (ak.here ?_); refine ak.bind (cf hE LL (fun j s1 L1 => ?_) ?_)
 · refine ak.bind (eZ L1 (fun s' e h => H.unary s' (by rw [e]; exact L1.lt) h (by rw [e]; have := L1.i; have := L1.lt; omega)) fun k s2 L2 _ => ?_); exact aG L2 fun k s3 L3 h => ⟨L3.less (by omega), h⟩
 · refine ak.ite (fun h2 => ?_) fun _ => ?_
   · refine ak.bind (cE hE LL (by omega) fun s1 L1 => ?_); exact aG L1 fun k s3 L3 h => ⟨L3.less (by omega), h⟩
   · refine ak.ite (fun _ => ?_) fun _ => ?_
     · exact qD hE H LL (by omega) fun k s1 L1 h => ⟨L1, h⟩
     · refine ak.bind (cf hE LL (fun j s1 L1 => ?_) ?_)
       · exact aG L1 fun k s3 L3 h => ⟨L3.less (by omega), h⟩
       · refine ak.ite (fun hk => ?_) fun _ => ?_
         · refine ak.bind (cE hE LL (by omega) fun s1 L1 => ?_); exact aG L1 fun k s3 L3 h => ⟨L3.less (by omega), h⟩
         · refine ak.ite (fun hk => ?_) fun _ => ?_
           · refine ak.bind (cE hE LL (by omega) fun s1 L1 => ?_); have hn1 : 20 * (K.length - s1.i) + 19 ≤ n := by have := L1.i; have := L1.lt; omega
             refine ak.ite (fun _ => ?_) fun _ => ?_
             · refine ak.bind (dH hE L1 (fun s2 h2 L2 => cA H (Lt.refl L2.lt L2.nn) (by omega) fun k s3 L3 h => ⟨L3, h⟩) fun k s3 L3 _ => ?_); exact aG L3 fun k s4 L4 h => ⟨L4.less (by omega), h⟩
             · refine ak.bind (dH hE L1 (fun s2 h2 L2 => d9 H (Lt.refl L2.lt L2.nn) (by omega) fun k s3 L3 h => ⟨L3, h⟩) fun k s3 L3 _ => ?_); exact aG L3 fun k s4 L4 h => ⟨L4.less (by omega), h⟩
           · exact rJ hE H LL (by omega) fun k s1 L1 h => ⟨L1, h⟩
theorem qW (hE : aM K) (H : bs K n r) (hi : s.i < K.length) (hd : 0 ≤ s.deep) (hn : 20 * (K.length - s.i) + 2 ≤ n + 1) : ak (innF K r) s (ct K s) := by
 unfold innF; have LL := Lt.refl hi hd; refine ak.bind (ak.here ?_); refine ak.bind (cf hE LL (fun j s1 L1 => ?_) ?_)
 · have hn1 : 20 * (K.length - s1.i) + 19 ≤ n := by have := L1.i; have := L1.lt; omega
   rcases j with _ | _ | _ | _ | j
   · refine ak.bind (dH hE L1 (fun s2 h2 L2 => cA H (Lt.refl L2.lt L2.nn) (by omega) fun k s3 L3 h => ⟨L3, h⟩) fun k s3 L3 _ => ?_); exact aG L3 fun k s4 L4 h => ⟨L4.less (by omega), h⟩
   · exact aG L1 fun k s4 L4 h => ⟨L4.less (by omega), h⟩
   · exact aG L1 fun k s4 L4 h => ⟨L4.less (by omega), h⟩
   · exact aG L1 fun k s4 L4 h => ⟨L4.less (by omega), h⟩
   · refine ak.bind (ry hE L1 fun x s2 L2 => ?_); exact aG L2 fun k s4 L4 h => ⟨L4.less (by omega), h⟩
 · refine ak.ite (fun h2 => ?_) fun _ => ?_
   · refine ak.bind (cE hE LL (by omega) fun s1 L1 => ?_); exact aG L1 fun k s3 L3 h => ⟨L3.less (by omega), h⟩
   · exact d9 H LL (by omega) fun k s1 L1 h => ⟨L1, h⟩
end
end Go.Proofs.YthkebhjaaikopaaGreatDoor
namespace Go.Proofs.YthkebhjaaikopaaGreatDoor
section
variable {K : List KT} {r : cT} {n d : Nat} {s0 s : St}
theorem fY {Q : Int → St → Prop} (hE : aM K) (H : bs K n r) (L : Lt K d s0 s) (hn : 20 * (K.length - s.i) ≤ n) (h1 : ∀ k s1, Lt K (d + 1) s0 s1 → bg k s1 → Q k s1) : ak (decl K r) s Q := by
 unfold decl; have LL := Lt.refl L.lt L.nn; refine ak.bind (ak.here ?_); have rest : ∀ (w : Option Nat) s1, Lt K 0 s s1 → ak (do
  let ty ← typ K
  let n ← nodeAt ty
  let l ← list K r (.var n.n)
  put s.i 21 (⟨#[]⟩ : ByteArray) (match w with | some i => (i : Int) + 1 | none => 0) (ty :: l)) s1 Q := by
  intro w s1 L1; refine ak.bind (ke hE L1 fun k s2 L2 _ => ?_); refine ak.bind (ak.nodeAt ?_); refine ak.bind (mg hE H L2 (by have := L2.i; have := L2.lt; omega) fun l s3 L3 => ?_); exact aG (L.trans L3 (by omega)) h1
 refine ak.bind (cf hE LL (fun j s1 L1 => rest (some j) s1 (L1.less (by omega))) (rest none s LL))
theorem mf {e : ByteArray} {l : List Int} (hE : aM K) (H : bs K n r) (hi : s.i < K.length) (hd : 0 ≤ s.deep) (hn : 20 * (K.length - s.i) + 1 ≤ n + 1) : ak (declsLF K r e l) s (dS K 0 s) := by
 unfold declsLF; have LL := Lt.refl hi hd; refine ak.bind (bk hE LL (fun s1 L1 => ?_) ?_)
 · refine ak.iT (ak.bind (ak.asks ?_)); refine ak.ite (fun _ => ak.pure (L1.less (by omega))) fun _ => ?_
   refine ak.bind (fY hE H L1 (by have := L1.i; have := L1.lt; omega) fun k s2 L2 _ => ?_); exact bX L2 (H.declsL _ _ s2 L2.lt L2.nn (by have := L2.i; have := L2.lt; omega)) fun l s3 L3 => L3.less (by omega)
 · exact ak.iF (ak.pure LL)
theorem iZ {e : ByteArray} {Q : List Int → St → Prop} (hE : aM K) (H : bs K n r) (L : Lt K d s0 s) (hn : 20 * (K.length - s.i) ≤ n) (h1 : ∀ l s1, Lt K (d + 1) s0 s1 → Q l s1) : ak (decls K r e) s Q := by
 unfold decls; have LL := Lt.refl L.lt L.nn; refine ak.bind (fY hE H LL hn fun k s1 L1 _ => ?_); refine ak.bind (bX L1 (H.declsL _ _ s1 L1.lt L1.nn (by have := L1.i; have := L1.lt; omega)) fun l s2 L2 => ?_); refine ak.bind (aL hE L2 fun s3 L3 => ?_); exact ak.pure (h1 _ _ (L.trans L3 (by omega)))
theorem cY {Q : Int → St → Prop} (hE : aM K) (H : bs K n r) (L : Lt K d s0 s) (hn : 20 * (K.length - s.i) ≤ n) (h1 : ∀ k s1, Lt K (d + 1) s0 s1 → bg k s1 → Q k s1) : ak (block K r) s Q := by
 unfold block; have LL := Lt.refl L.lt L.nn; refine ak.bind (aL hE LL fun s1 L1 => ?_); refine ak.bind (dy L1 (H.seq s1 L1.lt L1.nn (by have := L1.i; have := L1.lt; omega)) fun k s2 L2 hk => ?_); refine ak.bind (ak.must hE L2.lt fun hl => ?_); exact ak.pure (h1 _ _ (L.trans (L2.adv hl) (by omega)) hk)
theorem nh {b : Bool} (hE : aM K) (H : bs K n r) (hi : s.i < K.length) (hd : 0 ≤ s.deep) (hn : 20 * (K.length - s.i) + 1 ≤ n + 1) : ak (partLF K r b) s fun _ s' => Lt K 0 s s' := by
 unfold partLF; have LL := Lt.refl hi hd; refine ak.bind (cf hE LL (fun j s1 L1 => ?_) ?_)
 · exact (H.partL true s1 L1.lt L1.nn (by have := L1.i; have := L1.lt; omega)).mono fun _ s2 L2 => L1.trans L2 (by omega)
 · exact ak.pure LL
theorem gW {Q : Int → St → Prop} (H : bs K n r) (L : Lt K d s0 s) (hn : 20 * (K.length - s.i) + 14 ≤ n) (h1 : ∀ k s1, Lt K (d + 1) s0 s1 → bg k s1 → Q k s1) : ak (within r.stmt) s Q :=
 eZ L (fun s' e h => H.stmt s' (by rw [e]; exact L.lt) h (by rw [e]; omega)) h1
theorem oo {Q : Int → St → Prop} (hE : aM K) (H : bs K n r) (L : Lt K d s0 s) (hn : 20 * (K.length - s.i) + 14 ≤ n) (h1 : ∀ k s1, Lt K (d + 1) s0 s1 → bg k s1 → Q k s1) : ak (step K r) s Q := by
 unfold step; have LL := Lt.refl L.lt L.nn; refine ak.bind (ak.here ?_); refine ak.bind (ak.asks ?_); refine ak.ite (fun _ => fY hE H L (by omega) h1) fun _ => ?_
 refine ak.bind (cf hE LL (fun j s1 L1 => ?_) ?_)
 · refine ak.bind (dD hE H L1 (by have := L1.i; have := L1.lt; omega) fun l s2 L2 => ?_); exact aG (L.trans L2 (by omega)) h1
 · refine ak.bind (gW H LL hn fun a s1 L1 ha => ?_); refine ak.bind (bk hE L1 (fun s2 L2 => ?_) ?_)
   · refine ak.iT (ak.bind (gW H L2 (by have := L2.i; have := L2.lt; omega) fun b s3 L3 _ => ?_)); exact aG (L.trans L3 (by omega)) h1
   · exact ak.iF (ak.pure (h1 _ _ (L.trans L1 (by omega)) ha))
theorem pe {l : List Int} (hE : aM K) (H : bs K n r) (hi : s.i < K.length) (hd : 0 ≤ s.deep) (hn : 20 * (K.length - s.i) + 15 ≤ n + 1) : ak (seqLF K r l) s (dS K 1 s) := by
 unfold seqLF; have LL := Lt.refl hi hd; refine ak.bind (oo hE H LL (by omega) fun k s1 L1 _ => ?_); refine ak.bind (ak.here ?_); refine ak.bind ((H.partL false s1 L1.lt L1.nn (by have := L1.i; have := L1.lt; omega)).mono fun p s2 L2' => ?_); have L2 : Lt K 1 s s2 := L1.trans L2' (by omega); refine ak.bind (ak.asks ?_); refine ak.ite (fun _ => ak.pure L2) fun _ => ?_
 exact bX L2 (H.seqL _ s2 L2.lt L2.nn (by have := L2.i; have := L2.lt; omega)) fun l s3 L3 => L3.less (by omega)
theorem qj (H : bs K n r) (hi : s.i < K.length) (hd : 0 ≤ s.deep) (hn : 20 * (K.length - s.i) + 16 ≤ n + 1) : ak (seqF r) s (ct K s) := by
 unfold seqF; have LL := Lt.refl hi hd; refine ak.bind (ak.here ?_); refine ak.bind (bX LL (H.seqL _ s hi hd (by omega)) fun l s1 L1 => ?_); exact aG L1 fun k s2 L2 h => ⟨L2.less (by omega), h⟩
theorem nl {e : ByteArray} {l : List Int} (hE : aM K) (H : bs K n r) (hi : s.i < K.length) (hd : 0 ≤ s.deep) (hn : 20 * (K.length - s.i) + 1 ≤ n + 1) : ak (optsLF K r e l) s (dS K (if l.isEmpty then 1 else 0) s) := by
 unfold optsLF; have LL := Lt.refl hi hd; have rest : ∀ z : Bool, (z = true → l.isEmpty = false) → ∀ s1, Lt K 0 s s1 → (z = false → s1 = s) → ak (if z = true then (pure l : Pm (List Int)) else do
  must K (⟨#[58, 58]⟩ : ByteArray)
  let k ← r.seq
  r.optsL e (l ++ [k])) s1 (dS K (if l.isEmpty then 1 else 0) s) := by
  intro z hz s1 L1 h1; refine ak.ite (fun h => ?_) fun h => ?_
  · have := hz h; rw [if_neg (by simp [this])]; exact ak.pure L1
  · refine ak.bind (aL hE L1 fun s2 L2 => ?_); refine ak.bind (dy L2 (H.seq s2 L2.lt L2.nn (by have := L2.i; have := L2.lt; omega)) fun k s3 L3 _ => ?_); exact bX L3 (H.optsL _ _ s3 L3.lt L3.nn (by have := L3.i; have := L3.lt; omega)) fun l' s4 L4 => L4.less (by split <;> omega)
 refine ak.bind ?_; refine ak.ite (fun h => ak.pure (rest false (by simp) s LL (fun _ => rfl))) fun h => ?_
 exact bk hE LL (fun s1 L1 => rest true (fun _ => by simpa using h) s1 (L1.less (by omega)) (by simp)) (rest false (by simp) s LL (fun _ => rfl))
theorem kj {a : Int} {Q : List Int → St → Prop} (hE : aM K) (H : bs K n r) (L : Lt K d s0 s) (hn : 20 * (K.length - s.i) ≤ n) (h1 : ∀ l s1, Lt K (d + 1) s0 s1 → Q l s1) : ak (span K r a) s Q := by
 unfold span; have LL := Lt.refl L.lt L.nn; refine ak.bind (aL hE LL fun s1 L1 => ?_); refine ak.bind (du H L1 (by have := L1.i; have := L1.lt; omega) fun b s2 L2 _ => ?_); refine ak.bind (aL hE L2 fun s3 L3 => ?_); refine ak.bind (du H L3 (by have := L3.i; have := L3.lt; omega) fun c s4 L4 _ => ?_); exact ak.pure (h1 _ _ (L.trans L4 (by omega)))
theorem lU {Q : Int × List Int → St → Prop} (hE : aM K) (H : bs K n r) (L : Lt K d s0 s) (hn : 20 * (K.length - s.i) ≤ n) (h1 : ∀ l s1, Lt K (d + 1) s0 s1 → Q l s1) : ak (loop1 K r) s Q := by
 unfold loop1; have LL := Lt.refl L.lt L.nn; refine ak.bind (aL hE LL fun s1 L1 => ?_); refine ak.bind (d9 H L1 (by have := L1.i; have := L1.lt; omega) fun a s2 L2 _ => ?_); have rest : ∀ (x : Int × List Int) s3, Lt K 1 s s3 → ak (do
  must K (⟨#[41]⟩ : ByteArray)
  let b ← block K r
  pure (x.1, x.2 ++ [b])) s3 Q := by
  intro x s3 L3; refine ak.bind (aL hE L3 fun s4 L4 => ?_); refine ak.bind (cY hE H L4 (by have := L4.i; have := L4.lt; omega) fun b s5 L5 _ => ?_); exact ak.pure (h1 _ _ (L.trans L5 (by omega)))
 refine ak.bind (ak.bind (bk hE L2 (fun s3 L3 => ?_) ?_))
 · refine ak.iT (ak.bind (d9 H L3 (by have := L3.i; have := L3.lt; omega) fun b s4 L4 _ => ?_)); exact ak.pure (rest _ s4 (L4.less (by omega)))
 · refine ak.iF (ak.bind (kj hE H L2 (by have := L2.i; have := L2.lt; omega) fun l s4 L4 => ?_)); exact ak.pure (rest _ s4 (L4.less (by omega)))
theorem lN {l : List Int} (hE : aM K) (H : bs K n r) (hi : s.i < K.length) (hd : 0 ≤ s.deep) (hn : 20 * (K.length - s.i) + 1 ≤ n + 1) : ak (printLF K r l) s (dS K 0 s) := by
 unfold printLF; have LL := Lt.refl hi hd; refine ak.bind (bk hE LL (fun s1 L1 => ?_) ?_)
 · refine ak.iT (ak.bind (cA H L1 (by have := L1.i; have := L1.lt; omega) fun k s2 L2 _ => ?_)); exact bX L2 (H.printL _ s2 L2.lt L2.nn (by have := L2.i; have := L2.lt; omega)) fun l s3 L3 => L3.less (by omega)
 · exact ak.iF (ak.pure LL)
theorem iB {Q : ByteArray × List Int → St → Prop} (hE : aM K) (H : bs K n r) (L : Lt K d s0 s) (hn : 20 * (K.length - s.i) ≤ n) (h1 : ∀ l s1, Lt K (d + 1) s0 s1 → Q l s1) : ak (printed K r) s Q := by
 unfold printed; have LL := Lt.refl L.lt L.nn; refine ak.bind (aL hE LL fun s1 L1 => ?_); refine ak.bind (ak.here ?_); refine ak.ite (fun h3 => ?_) fun _ => ak.odd
 refine ak.bind (cE hE L1 (by omega) fun s2 L2 => ?_); refine ak.bind (bX L2 (H.printL _ s2 L2.lt L2.nn (by have := L2.i; have := L2.lt; omega)) fun l s3 L3 => ?_); refine ak.bind (aL hE L3 fun s4 L4 => ?_); exact ak.pure (h1 _ _ (L.trans L4 (by omega)))
theorem rX {t : Nat} {a i : Int} {Q : Int → St → Prop} (hE : aM K) (H : bs K n r) (L : Lt K d s0 s) (hk : (tok K s.i).kind ≠ 0) (hn : 20 * (K.length - s.i) ≤ n) (h1 : ∀ k s1, Lt K (d + 1) s0 s1 → bg k s1 → Q k s1) : ak (recv K r t a i) s Q := by
 unfold recv; have LL := Lt.refl L.lt L.nn; refine ak.bind (cE hE LL hk fun s1 L1 => ?_); refine ak.bind (bk hE L1 (fun s2 L2 => ?_) ?_)
 · refine ak.iT (ak.bind (nG hE H L2 (by have := L2.i; have := L2.lt; omega) fun l s3 L3 => ?_)); refine ak.bind (aL hE L3 fun s4 L4 => ?_); exact aG (L.trans L4 (by omega)) h1
 · refine ak.iF (ak.bind (nG hE H L1 (by have := L1.i; have := L1.lt; omega) fun l s3 L3 => ?_)); exact aG (L.trans L3 (by omega)) h1
theorem ow {m : Nat} {t : ByteArray} (h : aJ K m t s = true) : (tok K (bH K s m)).kind ≠ 0 := by
 unfold aJ at h; simp only [Bool.and_eq_true, beq_iff_eq] at h; rw [h.1]; exact jO t
theorem pO {t : Nat} {Q : Int → St → Prop} (hE : aM K) (H : bs K n r) (L : Lt K d s0 s) (h0 : (tok K s.i).kind ≠ 0) (hn : 20 * (K.length - s.i) + 13 ≤ n) (h1 : ∀ k s1, Lt K (d + 1) s0 s1 → bg k s1 → Q k s1) : ak (effect K r t) s Q := by
 unfold effect; have LL := Lt.refl L.lt L.nn; refine ak.bind (ak.asks ?_); refine ak.ite (fun hc => ?_) fun _ => ?_
 · have hl : s.i + 1 < K.length := (hE.step L.lt h0).2; have e1 : bH K s 1 = s.i + 1 := by unfold bH; omega
   have hk := ow hc; rw [e1] at hk; refine ak.bind (ak.next hE L.lt h0 fun hl => ?_); refine ak.bind (cE hE (LL.adv hl) hk fun s2 L2 => ?_); refine ak.bind (gW H L2 (by have := L2.i; have := L2.lt; omega) fun k s3 L3 _ => ?_); exact aG (L.trans L3 (by omega)) h1
 · show ak (r.ref >>= _) s Q; refine ak.bind (d9 H LL (by omega) fun a s1 L1 ha => ?_); refine ak.bind (mw fun i hi => ?_); refine ak.bind (ak.asks ?_); refine ak.ite (fun hr => ?_) fun _ => ?_
   · refine rX hE H L1 (hi (by simp only [Bool.and_eq_true, decide_eq_true_eq] at hr; exact hr.1)) (by have := L1.i; have := L1.lt; omega) fun k s2 L2 h => h1 _ _ (L.trans L2 (by omega)) h
   · refine ak.bind (cf hE L1 (fun j s2 L2 => ?_) ?_)
     · have hn2 : 20 * (K.length - s2.i) + 13 ≤ n := by have := L2.i; have := L2.lt; omega
       rcases j with _ | _ | _ | _ | j
       · refine ak.bind (du H L2 hn2 fun k s3 L3 _ => ?_); exact aG (L.trans L3 (by omega)) h1
       · exact aG (L.trans L2 (by omega)) h1
       · exact aG (L.trans L2 (by omega)) h1
       · refine ak.bind (oB hE H L2 hn2 fun l s3 L3 => ?_); exact aG (L.trans L3 (by omega)) h1
       · refine ak.bind (oB hE H L2 hn2 fun l s3 L3 => ?_); exact aG (L.trans L3 (by omega)) h1
     · have LB : Lt K 0 s { s1 with i := s.i, tree := s1.tree.take s.tree.length } := ⟨Nat.le_refl _, L.lt, by have := L1.tree; simp; omega, L1.deep, L1.mid, L1.nn⟩; show ak (expr r >>= _) { s1 with i := s.i, tree := s1.tree.take s.tree.length } Q; refine ak.bind (du H LB hn fun k s3 L3 _ => ?_); exact aG (L.trans L3 (by omega)) h1
theorem ff {i : Nat} (h : cO K i = true) : (tok K i).kind ≠ 0 := by
 unfold cO at h; simp only [Bool.and_eq_true, beq_iff_eq] at h; omega
theorem o6 (hE : aM K) (H : bs K n r) (hi : s.i < K.length) (hd : 0 ≤ s.deep) (hn : 20 * (K.length - s.i) + 14 ≤ n + 1) : ak (stmtF K r) s (ct K s) := by
 unfold stmtF; have LL := Lt.refl hi hd; refine ak.bind (ak.here ?_); refine ak.ite (fun h => pO hE H LL (ff h) (by omega) fun k s1 L1 h => ⟨L1, h⟩) fun _ => ?_
 refine ak.bind (ak.asks ?_); have pq : ∀ {d : Nat} {kind : Int} {text : ByteArray} {m : Int} {kids : List Int} {s1 : St}, Lt K (d + 1) s s1 → ak (put s.i kind text m kids) s1 (ct K s) := fun L1 => aG L1 fun k s2 L2 h => ⟨L2.less (by omega), h⟩
 refine ak.ite (fun _ => ?_) fun _ => ?_
 · exact ak.bind (cY hE H LL (by omega) fun k s1 L1 _ => pq L1)
 · refine ak.bind (cf hE LL (fun j s1 L1 => ?_) ?_)
   · have hn1 : 20 * (K.length - s1.i) + 33 ≤ n + 1 := by have := L1.i; have := L1.lt; omega
     rcases j with _ | _ | _ | _ | _ | _ | _ | _ | _ | _ | _ | j
     · exact ak.bind (bX L1 (H.optsL _ _ s1 L1.lt L1.nn (by omega)) fun l s2 L2 => pq L2)
     · exact ak.bind (bX L1 (H.optsL _ _ s1 L1.lt L1.nn (by omega)) fun l s2 L2 => pq L2)
     · exact ak.bind (lU hE H L1 (by omega) fun l s2 L2 => pq L2)
     · refine ak.bind (aL hE L1 fun s2 L2 => ?_); refine ak.bind (d9 H L2 (by have := L2.i; have := L2.lt; omega) fun a s3 L3 _ => ?_); refine ak.bind (kj hE H L3 (by have := L3.i; have := L3.lt; omega) fun l s4 L4 => ?_); exact ak.bind (aL hE L4 fun s5 L5 => pq L5)
     · exact ak.bind (cY hE H L1 (by omega) fun k s2 L2 _ => pq L2)
     · exact ak.bind (cY hE H L1 (by omega) fun k s2 L2 _ => pq L2)
     · exact pq L1
     · exact pq L1
     · exact ak.bind (cV hE L1 fun s2 L2 => pq L2)
     · exact ak.bind (iB hE H L1 (by omega) fun l s2 L2 => pq L2)
     · exact ak.bind (dH hE L1 (fun s2 h2 L2 => cA H (Lt.refl L2.lt L2.nn) (by omega) fun k s3 L3 h => ⟨L3, h⟩) fun k s3 L3 _ => pq L3)
     · exact ak.bind (du H L1 (by omega) fun k s2 L2 _ => pq L2)
   · exact ak.bind (du H LL (by omega) fun k s2 L2 _ => pq L2)
theorem kL {l : List Int} {Q : Int → St → Prop} (hE : aM K) (L : Lt K d s0 s) (h1 : ∀ k s1, Lt K d s0 s1 → bg k s1 → Q k s1) : ak (head K l) s Q := by
 unfold head; refine ak.bind (ak.here ?_); refine ak.bind (ak.bind (bk hE L (fun s1 L1 => ?_) ?_))
 · exact ak.iT (nq hE L1 fun x s2 L2 => aG (L2.less (by omega)) h1)
 · exact ak.iF (ak.pure (aG L h1))
theorem rg {Q : Int → St → Prop} (hE : aM K) (L : Lt K d s0 s) (h1 : ∀ x s1, Lt K d s0 s1 → Q x s1) : ak (count1 K) s Q := by
 unfold count1; refine ak.bind (bk hE L (fun s1 L1 => ?_) ?_)
 · refine ak.iT (ak.bind (bk hE L1 (fun s2 L2 => ?_) ?_))
   · refine ak.iT (ak.bind (nq hE L2 fun x s3 L3 => ?_)); refine ak.bind (aL hE L3 fun s4 L4 => ?_); exact ak.pure (h1 _ _ (L4.less (by omega)))
   · exact ak.iF (ak.pure (h1 _ _ (L1.less (by omega))))
 · exact ak.iF (ak.pure (h1 _ _ L))
theorem r7 {t : Nat} {Q : Int → St → Prop} (hE : aM K) (H : bs K n r) (L : Lt K d s0 s) (hn : 20 * (K.length - s.i) ≤ n) (h1 : ∀ k s1, Lt K (d + 1) s0 s1 → bg k s1 → Q k s1) : ak (proctype K r t) s Q := by
 unfold proctype; have LL := Lt.refl L.lt L.nn; refine ak.bind (rg hE LL fun x s1 L1 => ?_); refine ak.bind (aL hE L1 fun s2 L2 => ?_); refine ak.bind (cV hE L2 fun s3 L3 => ?_); refine ak.bind (aL hE L3 fun s4 L4 => ?_); have rest : ∀ (l : List Int) s5, Lt K 1 s s5 → ak (do
  let h ← head K l
  let p ← (do
   if ← take1 K (⟨#[112, 114, 111, 118, 105, 100, 101, 100]⟩ : ByteArray) then do
    let a ← braced K (inner r)
    pure [h, a]
   else pure [h])
  let b ← block K r
  put t 61 (tok K s2.i).text x (p ++ [b])) s5 Q := by
  intro l s5 L5; refine ak.bind (kL hE L5 fun h s6 L6 _ => ?_); refine ak.bind (ak.bind (bk hE L6 (fun s7 L7 => ?_) ?_))
  · refine ak.iT (ak.bind (dH hE L7 (fun s8 h8 L8 => cA H (Lt.refl L8.lt L8.nn) (by have := L8.i; have := L8.lt; omega) fun k s9 L9 h => ⟨L9, h⟩) fun a s8 L8 _ => ?_)); refine ak.pure (ak.bind (cY hE H L8 (by have := L8.i; have := L8.lt; omega) fun b s9 L9 _ => ?_)); exact aG (L.trans L9 (by omega)) h1
  · refine ak.iF (ak.pure (ak.bind (cY hE H L6 (by have := L6.i; have := L6.lt; omega) fun b s9 L9 _ => ?_))); exact aG (L.trans L9 (by omega)) h1
 refine ak.bind (ak.bind (bk hE L4 (fun s5 L5 => ?_) ?_))
 · exact ak.iT (ak.pure (rest _ s5 (L5.less (by omega))))
 · exact ak.iF (iZ hE H L4 (by have := L4.i; have := L4.lt; omega) fun l s5 L5 => rest _ s5 (L5.less (by omega)))
theorem lT {Q : Int → St → Prop} (hE : aM K) (H : bs K n r) (L : Lt K d s0 s) (hn : 20 * (K.length - s.i) ≤ n) (h1 : ∀ k s1, Lt K (d + 1) s0 s1 → bg k s1 → Q k s1) : ak (modul K r) s Q := by
 unfold modul; have LL := Lt.refl L.lt L.nn; refine ak.bind (ak.here ?_); refine ak.bind (ak.asks ?_); refine ak.ite (fun hm => ?_) fun _ => ?_
 · have hk : (tok K s.i).kind ≠ 0 := by
    simp only [Bool.and_eq_true] at hm; exact bx hm.1
   refine ak.bind (cE hE LL hk fun s1 L1 => ?_); have rest : ∀ s2, Lt K 1 s s2 → ak (do
    must K (⟨#[123]⟩ : ByteArray)
    let l ← list K r .mt
    must K (⟨#[125]⟩ : ByteArray)
    put s.i 65 (⟨#[]⟩ : ByteArray) 0 l) s2 Q := by
    intro s2 L2; refine ak.bind (aL hE L2 fun s3 L3 => ?_); refine ak.bind (dD hE H L3 (by have := L3.i; have := L3.lt; omega) fun l s4 L4 => ?_); refine ak.bind (aL hE L4 fun s5 L5 => ?_); exact aG (L.trans L5 (by omega)) h1
   exact ak.bind (bk hE L1 (fun s2 L2 => rest s2 (L2.less (by omega))) (rest s1 L1))
 · refine ak.bind (ak.asks ?_); refine ak.ite (fun _ => fY hE H L hn h1) fun _ => ?_
   refine ak.bind (cf hE LL (fun j s1 L1 => ?_) ?_)
   · have hn1 : 20 * (K.length - s1.i) ≤ n := by have := L1.i; have := L1.lt; omega
     rcases j with _ | _ | j
     · refine ak.bind (cV hE L1 fun s2 L2 => ?_); refine ak.bind (aL hE L2 fun s3 L3 => ?_); refine ak.bind (iZ hE H L3 (by have := L3.i; have := L3.lt; have := L1.i; omega) fun l s4 L4 => ?_); exact aG (L.trans L4 (by omega)) h1
     · refine ak.bind (kL hE L1 fun h s2 L2 _ => ?_); refine ak.bind (cY hE H L2 (by have := L2.i; have := L2.lt; omega) fun b s3 L3 _ => ?_); exact aG (L.trans L3 (by omega)) h1
     · have rest : ∀ (x : ByteArray) s2, Lt K 1 s s2 → ak (do
        let b ← block K r
        put s.i 64 x 0 [b]) s2 Q := by
        intro x s2 L2; refine ak.bind (cY hE H L2 (by have := L2.i; have := L2.lt; omega) fun b s3 L3 _ => ?_); exact aG (L.trans L3 (by omega)) h1
       refine ak.bind ?_
       by_cases hq : cZ K 0 s1 = true
       · obtain ⟨e, hl⟩ := hE.step L1.lt (jK hq); unfold ak; simp only [hq, if_true, e]; exact rest _ _ ((L1.adv hl).less (by omega))
       · have hq' : cZ K 0 s1 = false := by simpa using hq
         unfold ak; simp only [hq', Bool.false_eq_true, if_false]; exact rest _ _ L1
   · exact r7 hE H L hn h1
theorem px {l : List Int} (hE : aM K) (H : bs K n r) (hi : s.i < K.length) (hd : 0 ≤ s.deep) (hn : 20 * (K.length - s.i) + 1 ≤ n + 1) : ak (modLF K r l) s (dS K 0 s) := by
 unfold modLF; have LL := Lt.refl hi hd; refine ak.bind (ak.here ?_); refine ak.ite (fun _ => ak.pure LL) fun _ => ?_
 refine ak.bind (bk hE LL (fun s1 L1 => ?_) ?_)
 · exact ak.iT (bX L1 (H.modL _ s1 L1.lt L1.nn (by have := L1.i; have := L1.lt; omega)) fun l s2 L2 => L2.less (by omega))
 · refine ak.iF (ak.bind (lT hE H LL (by omega) fun k s1 L1 _ => ?_)); exact bX L1 (H.modL _ s1 L1.lt L1.nn (by have := L1.i; have := L1.lt; omega)) fun l s2 L2 => L2.less (by omega)
theorem pM (hE : aM K) (H : bs K n r) : bs K (n + 1) (t7 K r) where
 bin _ _ hk hi hd hn := rq H hk hi hd hn
 binL _ _ _ hk hi hd ha hn := pU hE H hk hi hd ha hn
 unary _ hi hd hn := mH hE H hi hd hn
 ref _ hi hd hn := qu hE H hi hd hn
 inn _ hi hd hn := qW hE H hi hd hn
 seq _ hi hd hn := qj H hi hd hn
 stmt _ hi hd hn := o6 hE H hi hd hn
 listL _ _ _ hi hd hn := nC hE H hi hd hn
 partL _ _ hi hd hn := nh hE H hi hd hn
 seqL _ _ hi hd hn := pe hE H hi hd hn
 optsL _ _ _ hi hd hn := nl hE H hi hd hn
 declsL _ _ _ hi hd hn := mf hE H hi hd hn
 printL _ _ hi hd hn := lN hE H hi hd hn
 modL _ _ hi hd hn := px hE H hi hd hn
end
theorem au {K : List KT} (hE : aM K) : ∀ n, bs K n (bf K n)
 | 0 => by
   constructor <;> intros <;> exfalso <;> omega
 | n + 1 => pM hE (au hE n)
end Go.Proofs.YthkebhjaaikopaaGreatDoor
namespace Go.Proofs.YthkebhjaaikopaaGreatDoor
section
variable {K : List KT} {α β : Type}
def gg (K : List KT) (s : St) : Prop := s.i < K.length
def aF (K : List KT) (V : α → Prop) (p : Pm α) : Prop := ∀ s, gg K s → match p s with
 | .ok a s' => gg K s' ∧ V a
 | .err _ x => x < K.length
 | .stuck => True
theorem aF.bind {V : α → Prop} {W : β → Prop} {p : Pm α} {g : α → Pm β} (h : aF K V p) (hg : ∀ a, V a → aF K W (g a)) : aF K W (p >>= g) := by
 intro s hs; have h1 := h s hs; show match (p s).next g with | .ok a s' => gg K s' ∧ W a | .err _ x => x < K.length | .stuck => True
 cases hp : p s with
 | ok a s' =>
   rw [hp] at h1; exact hg a h1.2 s' h1.1
 | err c x =>
   rw [hp] at h1; exact h1
 | stuck => trivial
theorem aF.pure {V : α → Prop} {a : α} (h : V a) : aF K V (Pure.pure a) := fun _ hs => ⟨hs, h⟩
theorem aF.ite {V : α → Prop} {c : Prop} [Decidable c] {p q : Pm α} (h1 : aF K V p) (h2 : aF K V q) : aF K V (if c then p else q) := by split <;> assumption
theorem cQ {s : St} (h : gg K s) : gg K (aH K s) := by
 unfold aH
 split
 · assumption
 · exact h
theorem aF.here : aF K (fun t => t < K.length) here := fun _ hs => ⟨hs, hs⟩
theorem aF.next : aF K (fun t => t < K.length) (next K) := fun _ hs => ⟨cQ hs, hs⟩
theorem aF.asks {f : St → Bool} : aF K (fun _ => True) (asks f) := fun _ hs => ⟨hs, trivial⟩
theorem aF.odd {V : α → Prop} : aF K V tU := fun _ hs => hs
theorem aF.must {t : ByteArray} : aF K (fun _ => True) (must K t) := fun s hs => by
 unfold Go.Proofs.YthkebhjaaikopaaGreatDoor.must
 split
 · rename_i h; split at h <;> (cases h; try exact ⟨cQ hs, trivial⟩)
 · rename_i h; split at h <;> cases h; exact hs
 · trivial
theorem aF.of {V : α → Prop} {p : Pm α} (h : ∀ s, gg K s → (∃ a s', p s = .ok a s' ∧ gg K s' ∧ V a) ∨ (∃ c x, p s = .err c x ∧ x < K.length)) : aF K V p := fun s hs => by
 rcases h s hs with ⟨a, s', e, h1⟩ | ⟨c, x, e, h1⟩
 · rw [e]; exact h1
 · rw [e]; exact h1
theorem aF.takes {l : List ByteArray} : aF K (fun _ => True) (takes K l) := aF.of fun s hs => by
 unfold Go.Proofs.YthkebhjaaikopaaGreatDoor.takes; cases bN K s l with
 | some i => exact .inl ⟨_, _, rfl, cQ hs, trivial⟩
 | none => exact .inl ⟨_, _, rfl, hs, trivial⟩
theorem aF.take1 {t : ByteArray} : aF K (fun _ => True) (take1 K t) := aF.of fun s hs => by
 unfold Go.Proofs.YthkebhjaaikopaaGreatDoor.take1
 split
 · exact .inl ⟨_, _, rfl, cQ hs, trivial⟩
 · exact .inl ⟨_, _, rfl, hs, trivial⟩
theorem aF.ident : aF K (fun t => t < K.length) (ident K) := aF.of fun s hs => by
 unfold Go.Proofs.YthkebhjaaikopaaGreatDoor.ident
 split
 · exact .inl ⟨_, _, rfl, cQ hs, hs⟩
 · exact .inr ⟨_, _, rfl, hs⟩
theorem aF.num {lo hi : Int} : aF K (fun _ => True) (num K lo hi) := aF.of fun s hs => by
 unfold Go.Proofs.YthkebhjaaikopaaGreatDoor.num
 split
 · exact .inr ⟨_, _, rfl, hs⟩
 · exact .inl ⟨_, _, rfl, cQ hs, trivial⟩
theorem aF.anyNum : aF K (fun _ => True) (fA K) := aF.num
theorem aF.some1 : aF K (fun _ => True) (some1 K) := fun s hs => by
 unfold Go.Proofs.YthkebhjaaikopaaGreatDoor.some1
 by_cases h : (tok K s.i).n = 0
 · rw [if_pos h]; exact hs
 · rw [if_neg h]; exact aF.anyNum s hs
theorem aF.put {t : Nat} {kind : Int} {text : ByteArray} {n : Int} {kids : List Int} (ht : t < K.length) : aF K (fun _ => True) (put t kind text n kids) := aF.of fun s hs => by
 unfold Go.Proofs.YthkebhjaaikopaaGreatDoor.put
 split
 · exact .inr ⟨_, _, rfl, ht⟩
 · exact .inl ⟨_, _, rfl, hs, trivial⟩
theorem aF.nodeAt {k : Int} : aF K (fun _ => True) (nodeAt k) := fun _ hs => ⟨hs, trivial⟩
theorem aF.cutTree {k : Nat} : aF K (fun _ => True) (hP k) := fun _ hs => ⟨hs, trivial⟩
theorem aF.within {p : Pm Int} (h : aF K (fun _ => True) p) : aF K (fun _ => True) (within p) := fun s hs => by
 unfold Go.Proofs.YthkebhjaaikopaaGreatDoor.within
 by_cases hd : 64 ≤ s.deep
 · rw [if_pos hd]; exact hs
 · rw [if_neg hd]; have h1 := h { s with deep := s.deep + 1 } hs; cases hp : p { s with deep := s.deep + 1 } with
   | ok a s' => rw [hp] at h1; exact h1
   | err c x => rw [hp] at h1; exact h1
   | stuck => trivial
theorem aF.plainly {p : Pm Int} {b : Bool} (h : aF K (fun _ => True) p) : aF K (fun _ => True) (plainly b p) := fun s hs => by
 unfold Go.Proofs.YthkebhjaaikopaaGreatDoor.plainly; have h1 := h { s with mid := b } hs; cases hp : p { s with mid := b } with
 | ok a s' => rw [hp] at h1; exact h1
 | err c x => rw [hp] at h1; exact h1
 | stuck => trivial
theorem aF.selfBind {V : α → Prop} {W : β → Prop} {p : Pm α} {F : St → α → Pm β} (hp : aF K V p) (h : ∀ s0 a, gg K s0 → V a → aF K W (F s0 a)) : aF K W (fun s0 => (p >>= F s0) s0) := fun s hs => aF.bind hp (fun a ha => h s a hs ha) s hs
theorem aF.back {V : α → Prop} {p : Pm α} {f : St → St} (hp : aF K V p) (hf : ∀ s, gg K (f s)) : aF K V (fun s => p (f s)) := fun s _ => hp (f s) (hf s)
structure aZ (K : List KT) (r : cT) : Prop where
 bin : ∀ n, aF K (fun _ => True) (r.bin n)
 binL : ∀ n a, aF K (fun _ => True) (r.binL n a)
 unary : aF K (fun _ => True) r.unary
 ref : aF K (fun _ => True) r.ref
 inn : aF K (fun _ => True) r.inn
 seq : aF K (fun _ => True) r.seq
 stmt : aF K (fun _ => True) r.stmt
 listL : ∀ o l, aF K (fun _ => True) (r.listL o l)
 partL : ∀ b, aF K (fun _ => True) (r.partL b)
 seqL : ∀ l, aF K (fun _ => True) (r.seqL l)
 optsL : ∀ t l, aF K (fun _ => True) (r.optsL t l)
 declsL : ∀ t l, aF K (fun _ => True) (r.declsL t l)
 printL : ∀ l, aF K (fun _ => True) (r.printL l)
 modL : ∀ l, aF K (fun _ => True) (r.modL l)
theorem eh {p : Pm α} (h : aF K (fun _ => True) p := by
 repeat' first
  | with_reducible refine aF.bind aF.here fun t ht => ?_
  | with_reducible refine aF.bind aF.next fun t ht => ?_
  | with_reducible refine aF.bind aF.ident fun t ht => ?_
  | with_reducible refine aF.bind (V := fun _ => True) ?_ fun a _ => ?_
  | with_reducible refine aF.ite ?_ ?_
  | with_reducible exact aF.put (by assumption)
  | with_reducible exact aF.pure trivial
  | with_reducible exact aF.must
  | with_reducible exact aF.takes
  | with_reducible exact aF.take1
  | with_reducible exact aF.num
  | with_reducible exact aF.anyNum
  | with_reducible exact aF.some1
  | with_reducible exact aF.asks
  | with_reducible exact aF.nodeAt
  | with_reducible exact aF.cutTree
  | with_reducible exact aF.odd
  | with_reducible apply_assumption
  | with_reducible refine aF.within ?_
  | with_reducible refine aF.plainly ?_
  | split
  | exact aF.of fun s hs => by split; exact .inl ⟨_, _, rfl, cQ hs, trivial⟩; exact .inl ⟨_, _, rfl, hs, trivial⟩
  | exact fun _ hs => ⟨hs, trivial⟩) : aF K (fun _ => True) p := h
theorem dw {r : cT} (hr : aZ K r) : aF K (fun _ => True) (expr r) := by
 unfold Go.Proofs.YthkebhjaaikopaaGreatDoor.expr; have := hr.bin; exact eh
theorem cM {r : cT} (hr : aZ K r) : aF K (fun _ => True) (inner r) := by
 unfold Go.Proofs.YthkebhjaaikopaaGreatDoor.inner; have := dw hr; exact eh
theorem sH {r : cT} (hr : aZ K r) (n : Nat) : aF K (fun _ => True) (binF r n) := by
 unfold Go.Proofs.YthkebhjaaikopaaGreatDoor.binF; have := hr.bin; have := hr.binL; have := hr.unary; exact eh
theorem rr {r : cT} (hr : aZ K r) (n : Nat) (a : Int) : aF K (fun _ => True) (binLF K r n a) := by
 unfold Go.Proofs.YthkebhjaaikopaaGreatDoor.binLF; have := hr.bin; have := hr.binL; exact eh
theorem mK {r : cT} (hr : aZ K r) : aF K (fun _ => True) (typ K) := by
 unfold Go.Proofs.YthkebhjaaikopaaGreatDoor.typ; exact eh
theorem nX {r : cT} (hr : aZ K r) : aF K (fun _ => True) (channel K r) := by
 unfold Go.Proofs.YthkebhjaaikopaaGreatDoor.channel; have := hr.listL; have := mK hr; exact eh
theorem pJ {r : cT} (hr : aZ K r) (kind : Int) : aF K (fun _ => True) (initOf K r kind) := by
 unfold Go.Proofs.YthkebhjaaikopaaGreatDoor.initOf; have := dw hr; have := nX hr; exact eh
theorem pd {r : cT} (hr : aZ K r) (kind : Int) : aF K (fun _ => True) (sizeOf K kind) := by
 unfold Go.Proofs.YthkebhjaaikopaaGreatDoor.sizeOf; exact eh
theorem kd {r : cT} (hr : aZ K r) (kind : Int) : aF K (fun _ => True) (variable1 K r kind) := by
 unfold Go.Proofs.YthkebhjaaikopaaGreatDoor.variable1; have := pJ hr; have := pd hr; exact eh
theorem sR {r : cT} (hr : aZ K r) : aF K (fun _ => True) (mt K) := by
 unfold Go.Proofs.YthkebhjaaikopaaGreatDoor.mt; exact eh
theorem np {r : cT} (hr : aZ K r) (o : gA) : aF K (fun _ => True) (one K r o) := by
 unfold Go.Proofs.YthkebhjaaikopaaGreatDoor.one; have := hr.ref; have := hr.inn; have := dw hr; have := cM hr; have := mK hr; have := kd hr; have := sR hr; exact eh
theorem fV {r : cT} (hr : aZ K r) (o : gA) : aF K (fun _ => True) (list K r o) := by
 unfold Go.Proofs.YthkebhjaaikopaaGreatDoor.list; have := hr.listL; have := np hr; exact eh
theorem pD {r : cT} (hr : aZ K r) (o : gA) (l : List Int) : aF K (fun _ => True) (listLF K r o l) := by
 unfold Go.Proofs.YthkebhjaaikopaaGreatDoor.listLF; have := hr.listL; have := np hr; exact eh
theorem fm {r : cT} (hr : aZ K r) (p : Pm Int) (hp : aF K (fun _ => True) p) : aF K (fun _ => True) (braced K p) := by
 unfold Go.Proofs.YthkebhjaaikopaaGreatDoor.braced; exact eh
theorem ox {r : cT} (hr : aZ K r) (first more : gA) : aF K (fun _ => True) (pack K r first more) := by
 unfold Go.Proofs.YthkebhjaaikopaaGreatDoor.pack; have := np hr; have := fV hr; exact eh
theorem qV {r : cT} (hr : aZ K r) : aF K (fun _ => True) (ins K r) := by
 unfold Go.Proofs.YthkebhjaaikopaaGreatDoor.ins; have := hr.inn; have := ox hr; exact eh
theorem oC {r : cT} (hr : aZ K r) : aF K (fun _ => True) (outs K r) := by
 unfold Go.Proofs.YthkebhjaaikopaaGreatDoor.outs; have := dw hr; have := cM hr; have := ox hr; exact eh
theorem mx {r : cT} (hr : aZ K r) : aF K (fun _ => True) (asked K) := by
 unfold Go.Proofs.YthkebhjaaikopaaGreatDoor.asked; exact eh
theorem rW {r : cT} (hr : aZ K r) : aF K (fun _ => True) (refF K r) := by
 unfold Go.Proofs.YthkebhjaaikopaaGreatDoor.refF; have := hr.ref; have := cM hr; exact eh
theorem qs {r : cT} (hr : aZ K r) (t : Nat) (ht : t < K.length) : aF K (fun _ => True) (round K r t) := by
 unfold Go.Proofs.YthkebhjaaikopaaGreatDoor.round; have := dw hr; have := cM hr; exact eh
theorem qE {r : cT} (hr : aZ K r) : aF K (fun _ => True) (named K r) := by
 unfold Go.Proofs.YthkebhjaaikopaaGreatDoor.named; have := hr.ref; have := qV hr; have := mx hr; exact eh
theorem rL {r : cT} (hr : aZ K r) (t : Nat) (ht : t < K.length) : aF K (fun _ => True) (word K r t) := by
 unfold Go.Proofs.YthkebhjaaikopaaGreatDoor.word; have := cM hr; have := fV hr; have := qs hr; exact eh
theorem oX {r : cT} (hr : aZ K r) : aF K (fun _ => True) (unaryF K r) := by
 unfold Go.Proofs.YthkebhjaaikopaaGreatDoor.unaryF; have := hr.unary; have := hr.ref; have := cM hr; have := fm hr; have := qE hr; have := rL hr; exact eh
theorem sj {r : cT} (hr : aZ K r) : aF K (fun _ => True) (innF K r) := by
 unfold Go.Proofs.YthkebhjaaikopaaGreatDoor.innF; have := hr.ref; have := cM hr; have := fm hr; exact eh
theorem hH {r : cT} (hr : aZ K r) : aF K (fun _ => True) (decl K r) := by
 unfold Go.Proofs.YthkebhjaaikopaaGreatDoor.decl; have := mK hr; have := fV hr; exact eh
theorem nU {r : cT} (hr : aZ K r) (e : ByteArray) (l : List Int) : aF K (fun _ => True) (declsLF K r e l) := by
 unfold Go.Proofs.YthkebhjaaikopaaGreatDoor.declsLF; have := hr.declsL; have := hH hr; exact eh
theorem me {r : cT} (hr : aZ K r) (e : ByteArray) : aF K (fun _ => True) (decls K r e) := by
 unfold Go.Proofs.YthkebhjaaikopaaGreatDoor.decls; have := hr.declsL; have := hH hr; exact eh
theorem gd {r : cT} (hr : aZ K r) : aF K (fun _ => True) (block K r) := by
 unfold Go.Proofs.YthkebhjaaikopaaGreatDoor.block; have := hr.seq; exact eh
theorem pm {r : cT} (hr : aZ K r) (b : Bool) : aF K (fun _ => True) (partLF K r b) := by
 unfold Go.Proofs.YthkebhjaaikopaaGreatDoor.partLF; have := hr.partL; exact eh
theorem rQ {r : cT} (hr : aZ K r) : aF K (fun _ => True) (step K r) := by
 unfold Go.Proofs.YthkebhjaaikopaaGreatDoor.step; have := hr.ref; have := hr.stmt; have := fV hr; have := hH hr; exact eh
theorem ql {r : cT} (hr : aZ K r) (l : List Int) : aF K (fun _ => True) (seqLF K r l) := by
 unfold Go.Proofs.YthkebhjaaikopaaGreatDoor.seqLF; have := hr.partL; have := hr.seqL; have := rQ hr; exact eh
theorem rU {r : cT} (hr : aZ K r) : aF K (fun _ => True) (seqF r) := by
 unfold Go.Proofs.YthkebhjaaikopaaGreatDoor.seqF; have := hr.seqL; exact eh
theorem pr {r : cT} (hr : aZ K r) (e : ByteArray) (l : List Int) : aF K (fun _ => True) (optsLF K r e l) := by
 unfold Go.Proofs.YthkebhjaaikopaaGreatDoor.optsLF; have := hr.seq; have := hr.optsL; exact eh
theorem ou {r : cT} (hr : aZ K r) (a : Int) : aF K (fun _ => True) (span K r a) := by
 unfold Go.Proofs.YthkebhjaaikopaaGreatDoor.span; have := dw hr; exact eh
theorem qN {r : cT} (hr : aZ K r) : aF K (fun _ => True) (loop1 K r) := by
 unfold Go.Proofs.YthkebhjaaikopaaGreatDoor.loop1; have := hr.ref; have := gd hr; have := ou hr; exact eh
theorem m8 {r : cT} (hr : aZ K r) (l : List Int) : aF K (fun _ => True) (printLF K r l) := by
 unfold Go.Proofs.YthkebhjaaikopaaGreatDoor.printLF; have := hr.printL; have := cM hr; exact eh
theorem m7 {r : cT} (hr : aZ K r) : aF K (fun _ => True) (printed K r) := by
 unfold Go.Proofs.YthkebhjaaikopaaGreatDoor.printed; have := hr.printL; exact eh
theorem rY {r : cT} (hr : aZ K r) (t : Nat) (a i : Int) (ht : t < K.length) : aF K (fun _ => True) (recv K r t a i) := by
 unfold Go.Proofs.YthkebhjaaikopaaGreatDoor.recv; have := qV hr; exact eh
theorem pP {r : cT} (hr : aZ K r) (t : Nat) (ht : t < K.length) : aF K (fun _ => True) (effect K r t) := by
 unfold Go.Proofs.YthkebhjaaikopaaGreatDoor.effect; refine aF.bind (V := fun _ => True) aF.asks fun a _ => aF.ite ?_ ?_
 · exact aF.bind aF.next fun _ _ => aF.bind aF.next fun _ _ => aF.bind (V := fun _ => True) (aF.within hr.stmt) fun _ _ => aF.put ht
 · refine aF.selfBind hr.ref fun s0 a hs0 _ => aF.bind (V := fun _ => True) (mx hr) fun i _ => aF.bind (V := fun _ => True) aF.asks fun o _ => aF.ite (rY hr _ _ _ ht) (aF.bind (V := fun _ => True) aF.takes fun x _ => ?_)
   match x with
   | some 0 => exact aF.bind (V := fun _ => True) (dw hr) fun _ _ => aF.put ht
   | some 1 => exact aF.put ht
   | some 2 => exact aF.put ht
   | some 3 => exact aF.bind (V := fun _ => True) (oC hr) fun _ _ => aF.put ht
   | some (_ + 4) => exact aF.bind (V := fun _ => True) (oC hr) fun _ _ => aF.put ht
   | none => exact aF.back (f := fun s1 : St => { s1 with i := s0.i, tree := s1.tree.take s0.tree.length }) (aF.bind (V := fun _ => True) (dw hr) fun _ _ => aF.put ht) (fun _ => hs0)
theorem qe {r : cT} (hr : aZ K r) : aF K (fun _ => True) (stmtF K r) := by
 unfold Go.Proofs.YthkebhjaaikopaaGreatDoor.stmtF; have := hr.ref; have := hr.optsL; have := dw hr; have := cM hr; have := fm hr; have := gd hr; have := ou hr; have := qN hr; have := m7 hr; have := pP hr; exact eh
theorem oK {r : cT} (hr : aZ K r) (l : List Int) : aF K (fun _ => True) (head K l) := by
 unfold Go.Proofs.YthkebhjaaikopaaGreatDoor.head; exact eh
theorem pQ {r : cT} (hr : aZ K r) : aF K (fun _ => True) (count1 K) := by
 unfold Go.Proofs.YthkebhjaaikopaaGreatDoor.count1; exact eh
theorem lK {r : cT} (hr : aZ K r) (t : Nat) (ht : t < K.length) : aF K (fun _ => True) (proctype K r t) := by
 unfold Go.Proofs.YthkebhjaaikopaaGreatDoor.proctype; have := cM hr; have := fm hr; have := me hr; have := gd hr; have := oK hr; have := pQ hr; exact eh
theorem qG {r : cT} (hr : aZ K r) : aF K (fun _ => True) (modul K r ) := by
 unfold Go.Proofs.YthkebhjaaikopaaGreatDoor.modul
 repeat' first
  | exact aF.must
  | exact aF.takes
  | exact aF.take1
  | exact aF.ident
  | exact aF.put (by assumption)
  | exact aF.put trivial
  | exact aF.asks
  | exact aF.here
  | exact aF.next
  | exact fun _ hs => ⟨hs, trivial⟩
  | exact aF.of fun s hs => by split; exact .inl ⟨_, _, rfl, cQ hs, trivial⟩; exact .inl ⟨_, _, rfl, hs, trivial⟩
  | exact sR hr
  | exact fV hr _
  | exact hH hr
  | exact me hr _
  | exact gd hr
  | exact oK hr _
  | exact lK hr _ (by assumption)
  | refine aF.bind aF.here fun t ht => ?_
  | refine aF.bind aF.next fun t ht => ?_
  | refine aF.bind aF.ident fun t ht => ?_
  | refine aF.bind (V := fun _ => True) ?_ fun a _ => ?_
  | refine aF.within ?_
  | refine aF.plainly ?_
  | refine aF.ite ?_ ?_
  | split
theorem qH {r : cT} (hr : aZ K r) (l : List Int) : aF K (fun _ => True) (modLF K r l) := by
 unfold Go.Proofs.YthkebhjaaikopaaGreatDoor.modLF; have := hr.modL; have := qG hr; exact eh
theorem rZ : aZ K t8 := by constructor <;> (intros; exact fun _ _ => trivial)
theorem tu (n : Nat) : aZ K (bf K n) := by
 induction n with
 | zero => exact rZ
 | succ n hr =>
   constructor
   · exact fun n => sH hr n
   · exact fun n a => rr hr n a
   · exact oX hr
   · exact rW hr
   · exact sj hr
   · exact rU hr
   · exact qe hr
   · exact fun o l => pD hr o l
   · exact fun b => pm hr b
   · exact fun l => ql hr l
   · exact fun t l => pr hr t l
   · exact fun t l => nU hr t l
   · exact fun l => m8 hr l
   · exact fun l => qH hr l
theorem qw {n : Nat} (h : 0 < K.length) {c : Int} {x : Nat} (hp : parse K n = .err c x) : x < K.length := by
 have h1 : aF K (fun _ => True) (do
  let l ← (bf K n).modL []
  put 0 60 (⟨#[]⟩ : ByteArray) 0 l : Pm Int) := aF.bind (V := fun _ => True) ((tu n).modL _) fun _ _ => aF.put h
 have h2 := h1 ⟨0, [], 0, false⟩ h; have h3 : parse K n = _ := rfl; unfold Go.Proofs.YthkebhjaaikopaaGreatDoor.parse at hp; rw [hp] at h2; exact h2
end
end Go.Proofs.YthkebhjaaikopaaGreatDoor
